import Derived.Test.YtgffficaoioljaaRk11
section
namespace Go.Proofs.Ytgffficaoioljaa.P
open Go.RowKit Go.Proofs.YtgffficaoioljaaW.PrintWords Go.Proofs.YtgffficaoioljaaW.PrintLast Go.Proofs.YtgffficaoioljaaW.PrintMore
attribute [local go_sem] max2_int min2_int max_two min_two max_three min_three max_four min_four
set_option linter.unusedVariables false
set_option linter.unusedSimpArgs false
set_option maxHeartbeats 8000000
set_option maxRecDepth 100000
def r1_Cmp.l0 : Nat → List Int → List Int → Int → Option (Int)
 | 0, _, _, _ => none
 | k + 1, x5, x6, x7 => if x7 ≥ 0 then (if 0 ≤ x7 then (if x7 < (x5.length : Int) then (if x7 < (x6.length : Int) then (if (rd x5 x7) < (rd x6 x7) then (some (-1)) else (if (rd x5 x7) > (rd x6 x7) then (some 1) else (r1_Cmp.l0 k x5 x6 (wrap64 (x7 - 1))))) else (none)) else (none)) else (none)) else (some 0)
def r1_Cmp.f (k : Nat) (l0 : List Int) (l1 : List Int) : Option (Int) := (r1_Trim.f k l0).bind fun t449 => ((r1_Trim.f k l1).bind fun t452 => (if (t449.length : Int) < (t452.length : Int) then (some (-1)) else (if (t449.length : Int) > (t452.length : Int) then (some 1) else (r1_Cmp.l0 k t449 t452 (wrap64 ((t449.length : Int) - 1))))))
theorem r1_Cmp.calls (k : Nat) (A0 : Option Addr) (c0 : Nat) (l0 : List Int) (A1 : Option Addr) (c1 : Nat) (l1 : List Int) (r : Int) (w : World) (hr0 : Kd.C (Kd.int .u32) w A0 l0.length l0) (hc0 : l0.length ≤ c0) (hr1 : Kd.C (Kd.int .u32) w A1 l1.length l1) (hc1 : l1.length ≤ c1) (h : r1_Cmp.f k l0 l1 = some r) :
  Calls Try.prog 36 #[.slice A0 l0.length c0, .slice A1 l1.length c1] w fun e w' => e = .returned (.int .i64 r) ∧ Below w.heap.size w w' := by
 have HR0 := Yt.mk hr0
 have HC0 := Yt.mk hc0
 clear hr0 hc0
 have HR1 := Yt.mk hr1
 have HC1 := Yt.mk hc1
 clear hr1 hc1
 have HB := Yt.mk (Below.refl w.heap.size w)
 unfold r1_Cmp.f at h
 have H := h
 clear h
 replace H := Option.bind_eq_some_iff.mp H
 obtain ⟨t449, A30, H⟩ := H
 try dsimp only at H
 have A3 := Yt.mk A30
 clear A30
 replace H := Option.bind_eq_some_iff.mp H
 obtain ⟨t452, A40, H⟩ := H
 try dsimp only at H
 have A4 := Yt.mk A40
 clear A40
 by_cases c5 : (t449.length : Int) < (t452.length : Int)
 ·rw [if_pos c5] at H
  have c5b0 : decide ((t449.length : Int) < (t452.length : Int)) = true := decide_eq_true c5
  have c5b1 : decide (t449.length < t452.length) = true := decide_eq_true (Int.ofNat_lt.mp c5)
  clear c5
  obtain rfl := Option.some.inj H
  go_enter Try.func36, Try.ntmps36
  go_wp2_with (first | (go_at_call 46; (with_reducible refine (r1_Trim.calls k _ _ l0 t449 _ ?side1 ?side2 A3.out).mono ?_); (case side1 => exact Qe11 HR0.out); (case side2 => exact HC0.out); rintro e w6 ⟨v450, rfl, ho0, hb⟩; have HO451 := Yt.mk (Kd.Yb ho0 (Zk (Qa0))); replace HB := Yt.mk (Zm (Qa0) hb); (try clear hb); (try clear ho0); clear A3) | (go_at_call 46; (with_reducible refine (r1_Trim.calls k _ _ l1 t452 _ ?side1 ?side2 A4.out).mono ?_); (case side1 => exact Qe11 (Kd.Ys HR1.out HB.out)); (case side2 => exact HC1.out); rintro e w7 ⟨v453, rfl, ho0, hb⟩; have HO454 := Yt.mk (Kd.Yb (Kd.Ya ho0 (Kd.R_lt (Qr1 HO451.out))) (Zk (Qa0))); replace HO451 := Yt.mk (Kd.Yf (Qr1 HO451.out) (Kd.Zw ho0) hb); replace HB := Yt.mk (Zm (Qa0) hb); (try clear hb); (try clear ho0); obtain ⟨Ao8, co8, eo8⟩ := Kd.Zx HO451.out; subst eo8; obtain ⟨Ao9, co9, eo9⟩ := Kd.Zx HO454.out; subst eo9; clear A4))
  repeat (go_quiet (first | (go_at_call 46; (with_reducible refine (r1_Trim.calls k _ _ l0 t449 _ ?side1 ?side2 A3.out).mono ?_); (case side1 => exact Qe11 HR0.out); (case side2 => exact HC0.out); rintro e w6 ⟨v450, rfl, ho0, hb⟩; have HO451 := Yt.mk (Kd.Yb ho0 (Zk (Qa0))); replace HB := Yt.mk (Zm (Qa0) hb); (try clear hb); (try clear ho0); clear A3) | (go_at_call 46; (with_reducible refine (r1_Trim.calls k _ _ l1 t452 _ ?side1 ?side2 A4.out).mono ?_); (case side1 => exact Qe11 (Kd.Ys HR1.out HB.out)); (case side2 => exact HC1.out); rintro e w7 ⟨v453, rfl, ho0, hb⟩; have HO454 := Yt.mk (Kd.Yb (Kd.Ya ho0 (Kd.R_lt (Qr1 HO451.out))) (Zk (Qa0))); replace HO451 := Yt.mk (Kd.Yf (Qr1 HO451.out) (Kd.Zw ho0) hb); replace HB := Yt.mk (Zm (Qa0) hb); (try clear hb); (try clear ho0); obtain ⟨Ao8, co8, eo8⟩ := Kd.Zx HO451.out; subst eo8; obtain ⟨Ao9, co9, eo9⟩ := Kd.Zx HO454.out; subst eo9; clear A4)); try go_wp2_with (first | (go_at_call 46; (with_reducible refine (r1_Trim.calls k _ _ l0 t449 _ ?side1 ?side2 A3.out).mono ?_); (case side1 => exact Qe11 HR0.out); (case side2 => exact HC0.out); rintro e w6 ⟨v450, rfl, ho0, hb⟩; have HO451 := Yt.mk (Kd.Yb ho0 (Zk (Qa0))); replace HB := Yt.mk (Zm (Qa0) hb); (try clear hb); (try clear ho0); clear A3) | (go_at_call 46; (with_reducible refine (r1_Trim.calls k _ _ l1 t452 _ ?side1 ?side2 A4.out).mono ?_); (case side1 => exact Qe11 (Kd.Ys HR1.out HB.out)); (case side2 => exact HC1.out); rintro e w7 ⟨v453, rfl, ho0, hb⟩; have HO454 := Yt.mk (Kd.Yb (Kd.Ya ho0 (Kd.R_lt (Qr1 HO451.out))) (Zk (Qa0))); replace HO451 := Yt.mk (Kd.Yf (Qr1 HO451.out) (Kd.Zw ho0) hb); replace HB := Yt.mk (Zm (Qa0) hb); (try clear hb); (try clear ho0); obtain ⟨Ao8, co8, eo8⟩ := Kd.Zx HO451.out; subst eo8; obtain ⟨Ao9, co9, eo9⟩ := Kd.Zx HO454.out; subst eo9; clear A4)))
  go_ret
  exact ⟨Qa4, Qa0⟩
 rw [if_neg c5] at H
 have c5b0 : decide ((t449.length : Int) < (t452.length : Int)) = false := decide_eq_false c5
 have c5b1 : decide (t449.length < t452.length) = false := decide_eq_false (fun h => c5 (Int.ofNat_lt.mpr h))
 clear c5
 by_cases c10 : (t449.length : Int) > (t452.length : Int)
 ·rw [if_pos c10] at H
  have c10b0 : decide ((t452.length : Int) < (t449.length : Int)) = true := decide_eq_true c10
  have c10b1 : decide (t452.length < t449.length) = true := decide_eq_true (Int.ofNat_lt.mp c10)
  clear c10
  obtain rfl := Option.some.inj H
  go_enter Try.func36, Try.ntmps36
  go_wp2_with (first | (go_at_call 46; (with_reducible refine (r1_Trim.calls k _ _ l0 t449 _ ?side1 ?side2 A3.out).mono ?_); (case side1 => exact Qe11 HR0.out); (case side2 => exact HC0.out); rintro e w11 ⟨v450, rfl, ho0, hb⟩; have HO451 := Yt.mk (Kd.Yb ho0 (Zk (Qa0))); replace HB := Yt.mk (Zm (Qa0) hb); (try clear hb); (try clear ho0); clear A3) | (go_at_call 46; (with_reducible refine (r1_Trim.calls k _ _ l1 t452 _ ?side1 ?side2 A4.out).mono ?_); (case side1 => exact Qe11 (Kd.Ys HR1.out HB.out)); (case side2 => exact HC1.out); rintro e w12 ⟨v453, rfl, ho0, hb⟩; have HO454 := Yt.mk (Kd.Yb (Kd.Ya ho0 (Kd.R_lt (Qr1 HO451.out))) (Zk (Qa0))); replace HO451 := Yt.mk (Kd.Yf (Qr1 HO451.out) (Kd.Zw ho0) hb); replace HB := Yt.mk (Zm (Qa0) hb); (try clear hb); (try clear ho0); obtain ⟨Ao13, co13, eo13⟩ := Kd.Zx HO451.out; subst eo13; obtain ⟨Ao14, co14, eo14⟩ := Kd.Zx HO454.out; subst eo14; clear A4))
  repeat (go_quiet (first | (go_at_call 46; (with_reducible refine (r1_Trim.calls k _ _ l0 t449 _ ?side1 ?side2 A3.out).mono ?_); (case side1 => exact Qe11 HR0.out); (case side2 => exact HC0.out); rintro e w11 ⟨v450, rfl, ho0, hb⟩; have HO451 := Yt.mk (Kd.Yb ho0 (Zk (Qa0))); replace HB := Yt.mk (Zm (Qa0) hb); (try clear hb); (try clear ho0); clear A3) | (go_at_call 46; (with_reducible refine (r1_Trim.calls k _ _ l1 t452 _ ?side1 ?side2 A4.out).mono ?_); (case side1 => exact Qe11 (Kd.Ys HR1.out HB.out)); (case side2 => exact HC1.out); rintro e w12 ⟨v453, rfl, ho0, hb⟩; have HO454 := Yt.mk (Kd.Yb (Kd.Ya ho0 (Kd.R_lt (Qr1 HO451.out))) (Zk (Qa0))); replace HO451 := Yt.mk (Kd.Yf (Qr1 HO451.out) (Kd.Zw ho0) hb); replace HB := Yt.mk (Zm (Qa0) hb); (try clear hb); (try clear ho0); obtain ⟨Ao13, co13, eo13⟩ := Kd.Zx HO451.out; subst eo13; obtain ⟨Ao14, co14, eo14⟩ := Kd.Zx HO454.out; subst eo14; clear A4)); try go_wp2_with (first | (go_at_call 46; (with_reducible refine (r1_Trim.calls k _ _ l0 t449 _ ?side1 ?side2 A3.out).mono ?_); (case side1 => exact Qe11 HR0.out); (case side2 => exact HC0.out); rintro e w11 ⟨v450, rfl, ho0, hb⟩; have HO451 := Yt.mk (Kd.Yb ho0 (Zk (Qa0))); replace HB := Yt.mk (Zm (Qa0) hb); (try clear hb); (try clear ho0); clear A3) | (go_at_call 46; (with_reducible refine (r1_Trim.calls k _ _ l1 t452 _ ?side1 ?side2 A4.out).mono ?_); (case side1 => exact Qe11 (Kd.Ys HR1.out HB.out)); (case side2 => exact HC1.out); rintro e w12 ⟨v453, rfl, ho0, hb⟩; have HO454 := Yt.mk (Kd.Yb (Kd.Ya ho0 (Kd.R_lt (Qr1 HO451.out))) (Zk (Qa0))); replace HO451 := Yt.mk (Kd.Yf (Qr1 HO451.out) (Kd.Zw ho0) hb); replace HB := Yt.mk (Zm (Qa0) hb); (try clear hb); (try clear ho0); obtain ⟨Ao13, co13, eo13⟩ := Kd.Zx HO451.out; subst eo13; obtain ⟨Ao14, co14, eo14⟩ := Kd.Zx HO454.out; subst eo14; clear A4)))
  go_ret
  exact ⟨Qa4, Qa0⟩
 rw [if_neg c10] at H
 have c10b0 : decide ((t452.length : Int) < (t449.length : Int)) = false := decide_eq_false c10
 have c10b1 : decide (t452.length < t449.length) = false := decide_eq_false (fun h => c10 (Int.ofNat_lt.mpr h))
 clear c10
 have H' := Yt.mk H
 clear H
 go_enter Try.func36, Try.ntmps36
 go_wp2_with (first | (go_at_call 46; (with_reducible refine (r1_Trim.calls k _ _ l0 t449 _ ?side1 ?side2 A3.out).mono ?_); (case side1 => exact Qe11 HR0.out); (case side2 => exact HC0.out); rintro e w15 ⟨v450, rfl, ho0, hb⟩; have HO451 := Yt.mk (Kd.Yb ho0 (Zk (Qa0))); replace HB := Yt.mk (Zm (Qa0) hb); (try clear hb); (try clear ho0); clear A3) | (go_at_call 46; (with_reducible refine (r1_Trim.calls k _ _ l1 t452 _ ?side1 ?side2 A4.out).mono ?_); (case side1 => exact Qe11 (Kd.Ys HR1.out HB.out)); (case side2 => exact HC1.out); rintro e w16 ⟨v453, rfl, ho0, hb⟩; have HO454 := Yt.mk (Kd.Yb (Kd.Ya ho0 (Kd.R_lt (Qr1 HO451.out))) (Zk (Qa0))); replace HO451 := Yt.mk (Kd.Yf (Qr1 HO451.out) (Kd.Zw ho0) hb); replace HB := Yt.mk (Zm (Qa0) hb); (try clear hb); (try clear ho0); obtain ⟨Ao17, co17, eo17⟩ := Kd.Zx HO451.out; subst eo17; obtain ⟨Ao18, co18, eo18⟩ := Kd.Zx HO454.out; subst eo18; clear A4))
 repeat (go_quiet (first | (go_at_call 46; (with_reducible refine (r1_Trim.calls k _ _ l0 t449 _ ?side1 ?side2 A3.out).mono ?_); (case side1 => exact Qe11 HR0.out); (case side2 => exact HC0.out); rintro e w15 ⟨v450, rfl, ho0, hb⟩; have HO451 := Yt.mk (Kd.Yb ho0 (Zk (Qa0))); replace HB := Yt.mk (Zm (Qa0) hb); (try clear hb); (try clear ho0); clear A3) | (go_at_call 46; (with_reducible refine (r1_Trim.calls k _ _ l1 t452 _ ?side1 ?side2 A4.out).mono ?_); (case side1 => exact Qe11 (Kd.Ys HR1.out HB.out)); (case side2 => exact HC1.out); rintro e w16 ⟨v453, rfl, ho0, hb⟩; have HO454 := Yt.mk (Kd.Yb (Kd.Ya ho0 (Kd.R_lt (Qr1 HO451.out))) (Zk (Qa0))); replace HO451 := Yt.mk (Kd.Yf (Qr1 HO451.out) (Kd.Zw ho0) hb); replace HB := Yt.mk (Zm (Qa0) hb); (try clear hb); (try clear ho0); obtain ⟨Ao17, co17, eo17⟩ := Kd.Zx HO451.out; subst eo17; obtain ⟨Ao18, co18, eo18⟩ := Kd.Zx HO454.out; subst eo18; clear A4)); try go_wp2_with (first | (go_at_call 46; (with_reducible refine (r1_Trim.calls k _ _ l0 t449 _ ?side1 ?side2 A3.out).mono ?_); (case side1 => exact Qe11 HR0.out); (case side2 => exact HC0.out); rintro e w15 ⟨v450, rfl, ho0, hb⟩; have HO451 := Yt.mk (Kd.Yb ho0 (Zk (Qa0))); replace HB := Yt.mk (Zm (Qa0) hb); (try clear hb); (try clear ho0); clear A3) | (go_at_call 46; (with_reducible refine (r1_Trim.calls k _ _ l1 t452 _ ?side1 ?side2 A4.out).mono ?_); (case side1 => exact Qe11 (Kd.Ys HR1.out HB.out)); (case side2 => exact HC1.out); rintro e w16 ⟨v453, rfl, ho0, hb⟩; have HO454 := Yt.mk (Kd.Yb (Kd.Ya ho0 (Kd.R_lt (Qr1 HO451.out))) (Zk (Qa0))); replace HO451 := Yt.mk (Kd.Yf (Qr1 HO451.out) (Kd.Zw ho0) hb); replace HB := Yt.mk (Zm (Qa0) hb); (try clear hb); (try clear ho0); obtain ⟨Ao17, co17, eo17⟩ := Kd.Zx HO451.out; subst eo17; obtain ⟨Ao18, co18, eo18⟩ := Kd.Zx HO454.out; subst eo18; clear A4)))
 go_loopg [7] k (fun kq v7 w' => ∃ (x7_1 : Int), v7 = .int .i64 x7_1 ∧ Yt (r1_Cmp.l0 kq t449 t452 x7_1 = some r) ∧ Yt (kq ≤ k) ∧ Yt (Kd.R (Kd.int .u32) 47 w' w.heap.size (fun k_ => some k_ ≠ ((.slice Ao18 t452.length co18) : Value).ownBlock) (.slice Ao17 t449.length co17) t449) ∧ Yt (Kd.R (Kd.int .u32) 47 w' w.heap.size (fun k_ => some k_ ≠ ((.slice Ao17 t449.length co17) : Value).ownBlock) (.slice Ao18 t452.length co18) t452) ∧ Yt (Below w.heap.size w w'))
 case atStart => exact ⟨(wrap64 ((t449.length : Int) - 1)), Qa5, H', ⟨Nat.le_refl _⟩, ⟨by (with_reducible repeat (first | apply Kd.Zf | apply Kd.Ze | apply Kd.Zj)); exact Kd.Zv HO451.out (fun _ hk => hk.2)⟩, ⟨by (with_reducible repeat (first | apply Kd.Zf | apply Kd.Ze | apply Kd.Zj)); exact Kd.Zv HO454.out (fun _ hk => hk.2)⟩, ⟨Qa0⟩⟩
 case round =>
  clear H'
  try clear c1; try clear p2; try clear c3; try clear c5; try clear c5b0; try clear c5b1; try clear p6; try clear c10; try clear c10b0; try clear c10b1
  obtain ⟨x7_1, rfl, HA, HK1, HO_5, HO_6, HB⟩ := hrel
  cases gk with
  | zero => exact absurd HA.out (by simp [r1_Cmp.l0])
  | succ k1 =>
   have H := HA.out
   clear HA
   simp only [r1_Cmp.l0] at H
   by_cases c19 : x7_1 ≥ 0
   rotate_left
   ·rw [if_neg c19] at H
    have c19b0 : decide (0 ≤ x7_1) = false := decide_eq_false c19
    clear c19
    obtain rfl := Option.some.inj H
    go_wp2
    repeat (go_quiet (fail); try go_wp2)
    go_ret
    exact ⟨Qa4, Qa0⟩
   rw [if_pos c19] at H
   have c19b0 : decide (0 ≤ x7_1) = true := decide_eq_true c19
   clear c19
   by_cases c20 : 0 ≤ x7_1
   rotate_left
   ·rw [if_neg c20] at H
    exact absurd H (by simp)
   rw [if_pos c20] at H
   have c20b0 : decide (0 ≤ x7_1) = true := decide_eq_true c20
   clear c20
   by_cases c21 : x7_1 < (t449.length : Int)
   rotate_left
   ·rw [if_neg c21] at H
    exact absurd H (by simp)
   rw [if_pos c21] at H
   have c21b0 : decide (x7_1 < (t449.length : Int)) = true := decide_eq_true c21
   clear c21
   by_cases c22 : x7_1 < (t452.length : Int)
   rotate_left
   ·rw [if_neg c22] at H
    exact absurd H (by simp)
   rw [if_pos c22] at H
   have c22b0 : decide (x7_1 < (t452.length : Int)) = true := decide_eq_true c22
   clear c22
   by_cases c23 : (rd t449 x7_1) < (rd t452 x7_1)
   ·rw [if_pos c23] at H
    have c23b0 : decide ((rd t449 x7_1) < (rd t452 x7_1)) = true := decide_eq_true c23
    clear c23
    obtain rfl := Option.some.inj H
    have p455 : 0 ≤ (x7_1 : Int) := Qd
    have q455 : x7_1 < (t449.length : Int) := Qd
    obtain ⟨ad455, e455, hx455_0⟩ := Kd.at_int (Kd.Zs HO_5.out).2.2 x7_1 p455 q455
    cases e455
    replace p455 := eq_true p455
    replace q455 := eq_true q455
    have p456 : 0 ≤ (x7_1 : Int) := Qd
    have q456 : x7_1 < (t452.length : Int) := Qd
    obtain ⟨ad456, e456, hx456_0⟩ := Kd.at_int (Kd.Zs HO_6.out).2.2 x7_1 p456 q456
    cases e456
    replace p456 := eq_true p456
    replace q456 := eq_true q456
    go_wp2
    repeat (go_quiet (fail); try go_wp2)
    go_ret
    exact ⟨Qa4, Qa0⟩
   rw [if_neg c23] at H
   have c23b0 : decide ((rd t449 x7_1) < (rd t452 x7_1)) = false := decide_eq_false c23
   clear c23
   by_cases c24 : (rd t449 x7_1) > (rd t452 x7_1)
   ·rw [if_pos c24] at H
    have c24b0 : decide ((rd t452 x7_1) < (rd t449 x7_1)) = true := decide_eq_true c24
    clear c24
    obtain rfl := Option.some.inj H
    have p455 : 0 ≤ (x7_1 : Int) := Qd
    have q455 : x7_1 < (t449.length : Int) := Qd
    obtain ⟨ad455, e455, hx455_0⟩ := Kd.at_int (Kd.Zs HO_5.out).2.2 x7_1 p455 q455
    cases e455
    replace p455 := eq_true p455
    replace q455 := eq_true q455
    have p456 : 0 ≤ (x7_1 : Int) := Qd
    have q456 : x7_1 < (t452.length : Int) := Qd
    obtain ⟨ad456, e456, hx456_0⟩ := Kd.at_int (Kd.Zs HO_6.out).2.2 x7_1 p456 q456
    cases e456
    replace p456 := eq_true p456
    replace q456 := eq_true q456
    have p457 : 0 ≤ (x7_1 : Int) := Qd
    have q457 : x7_1 < (t449.length : Int) := Qd
    obtain ⟨ad457, e457, hx457_0⟩ := Kd.at_int (Kd.Zs HO_5.out).2.2 x7_1 p457 q457
    obtain rfl : ad455 = ad457 := (by injection e457)
    replace p457 := eq_true p457
    replace q457 := eq_true q457
    have p458 : 0 ≤ (x7_1 : Int) := Qd
    have q458 : x7_1 < (t452.length : Int) := Qd
    obtain ⟨ad458, e458, hx458_0⟩ := Kd.at_int (Kd.Zs HO_6.out).2.2 x7_1 p458 q458
    obtain rfl : ad456 = ad458 := (by injection e458)
    replace p458 := eq_true p458
    replace q458 := eq_true q458
    go_wp2
    repeat (go_quiet (fail); try go_wp2)
    go_ret
    exact ⟨Qa4, Qa0⟩
   rw [if_neg c24] at H
   have c24b0 : decide ((rd t452 x7_1) < (rd t449 x7_1)) = false := decide_eq_false c24
   clear c24
   have H' := Yt.mk H
   clear H
   have p455 : 0 ≤ (x7_1 : Int) := Qd
   have q455 : x7_1 < (t449.length : Int) := Qd
   obtain ⟨ad455, e455, hx455_0⟩ := Kd.at_int (Kd.Zs HO_5.out).2.2 x7_1 p455 q455
   cases e455
   replace p455 := eq_true p455
   replace q455 := eq_true q455
   have p456 : 0 ≤ (x7_1 : Int) := Qd
   have q456 : x7_1 < (t452.length : Int) := Qd
   obtain ⟨ad456, e456, hx456_0⟩ := Kd.at_int (Kd.Zs HO_6.out).2.2 x7_1 p456 q456
   cases e456
   replace p456 := eq_true p456
   replace q456 := eq_true q456
   have p457 : 0 ≤ (x7_1 : Int) := Qd
   have q457 : x7_1 < (t449.length : Int) := Qd
   obtain ⟨ad457, e457, hx457_0⟩ := Kd.at_int (Kd.Zs HO_5.out).2.2 x7_1 p457 q457
   obtain rfl : ad455 = ad457 := (by injection e457)
   replace p457 := eq_true p457
   replace q457 := eq_true q457
   have p458 : 0 ≤ (x7_1 : Int) := Qd
   have q458 : x7_1 < (t452.length : Int) := Qd
   obtain ⟨ad458, e458, hx458_0⟩ := Kd.at_int (Kd.Zs HO_6.out).2.2 x7_1 p458 q458
   obtain rfl : ad456 = ad458 := (by injection e458)
   replace p458 := eq_true p458
   replace q458 := eq_true q458
   go_wp2
   repeat (go_quiet (fail); try go_wp2)
   go_roundg k1
   case measure => have := HK1.out; omega
   case rel => exact ⟨(wrap64 (x7_1 - 1)), Qa5, H', ⟨by have := HK1.out; omega⟩, ⟨Qr1 HO_5.out⟩, ⟨Qr1 HO_6.out⟩, ⟨Qa0⟩⟩
mutual
def r1_Plus.l0 : Nat → List Int → List Int → List Int → Int → Int → Option (List Int)
 | 0, _, _, _, _, _ => none
 | k + 1, x0, x1, x5, x6, x7 => if x7 < (x0.length : Int) then (r1_Plus.j1 k x0 x1 x5 x6 x7 true) else (r1_Plus.j1 k x0 x1 x5 x6 x7 (decide (x7 < (x1.length : Int))))
def r1_Plus.j1 : Nat → List Int → List Int → List Int → Int → Int → Bool → Option (List Int)
 | 0, _, _, _, _, _, _ => none
 | k + 1, x0, x1, x5, x6, x7, x17 => if x17 = true then (if x7 < (x0.length : Int) then (if 0 ≤ x7 then (if x7 < (x1.length : Int) then (if x5.length < 35184372088832 then (r1_Plus.l0 k x0 x1 (x5 ++ [(Int.tmod (IntKind.u64.wrap ((IntKind.u64.wrap (x6 + (IntKind.u64.wrap (rd x0 x7)))) + (IntKind.u64.wrap (rd x1 x7)))) 4294967296) % 4294967296]) (IntKind.u64.wrap (Int.tdiv (IntKind.u64.wrap ((IntKind.u64.wrap (x6 + (IntKind.u64.wrap (rd x0 x7)))) + (IntKind.u64.wrap (rd x1 x7)))) 4294967296)) (wrap64 (x7 + 1))) else (none)) else (if x5.length < 35184372088832 then (r1_Plus.l0 k x0 x1 (x5 ++ [(Int.tmod (IntKind.u64.wrap (x6 + (IntKind.u64.wrap (rd x0 x7)))) 4294967296) % 4294967296]) (IntKind.u64.wrap (Int.tdiv (IntKind.u64.wrap (x6 + (IntKind.u64.wrap (rd x0 x7)))) 4294967296)) (wrap64 (x7 + 1))) else (none))) else (none)) else (if x7 < (x1.length : Int) then (if 0 ≤ x7 then (if x5.length < 35184372088832 then (r1_Plus.l0 k x0 x1 (x5 ++ [(Int.tmod (IntKind.u64.wrap (x6 + (IntKind.u64.wrap (rd x1 x7)))) 4294967296) % 4294967296]) (IntKind.u64.wrap (Int.tdiv (IntKind.u64.wrap (x6 + (IntKind.u64.wrap (rd x1 x7)))) 4294967296)) (wrap64 (x7 + 1))) else (none)) else (none)) else (if x5.length < 35184372088832 then (r1_Plus.l0 k x0 x1 (x5 ++ [(Int.tmod x6 4294967296) % 4294967296]) (IntKind.u64.wrap (Int.tdiv x6 4294967296)) (wrap64 (x7 + 1))) else (none)))) else (if x5.length < 35184372088832 then ((r1_Trim.f k (x5 ++ [(x6) % 4294967296])).bind fun t462 => (some t462)) else (none))
end
def r1_Plus.f (k : Nat) (l0 : List Int) (l1 : List Int) : Option (List Int) := r1_Plus.l0 k l0 l1 ([] : List Int) 0 0
theorem r1_Plus.calls (k : Nat) (A0 : Option Addr) (c0 : Nat) (l0 : List Int) (A1 : Option Addr) (c1 : Nat) (l1 : List Int) (r : List Int) (w : World) (hr0 : Kd.C (Kd.int .u32) w A0 l0.length l0) (hc0 : l0.length ≤ c0) (hr1 : Kd.C (Kd.int .u32) w A1 l1.length l1) (hc1 : l1.length ≤ c1) (h : r1_Plus.f k l0 l1 = some r) :
  Calls Try.prog 37 #[.slice A0 l0.length c0, .slice A1 l1.length c1] w fun e w' => ∃ v0_ : Value, e = .returned (v0_) ∧ Kd.R (Kd.int .u32) 47 w' w.heap.size (fun _ => True) v0_ r ∧ Below w.heap.size w w' := by
 have HR0 := Yt.mk hr0
 have HC0 := Yt.mk hc0
 clear hr0 hc0
 have HR1 := Yt.mk hr1
 have HC1 := Yt.mk hc1
 clear hr1 hc1
 have HB := Yt.mk (Below.refl w.heap.size w)
 unfold r1_Plus.f at h
 have H := h
 clear h
 have H' := Yt.mk H
 clear H
 go_enter Try.func37, Try.ntmps37
 go_wp2
 go_loopg [5, 6, 7] k (fun kq v5 v6 v7 w' => ∃ (x5_1 : List Int) (x6_1 : Int) (x7_1 : Int), v6 = .int .u64 x6_1 ∧ v7 = .int .i64 x7_1 ∧ Yt (r1_Plus.l0 kq l0 l1 x5_1 x6_1 x7_1 = some r) ∧ Yt (kq ≤ k) ∧ Yt (Kd.R (Kd.int .u32) 47 w' w.heap.size (fun _ => True) v5 x5_1) ∧ Yt (Below w.heap.size w w'))
 case atStart => exact ⟨(([] : List Int)), (0), (0), Qa5, Qa5, H', ⟨Nat.le_refl _⟩, ⟨by first | exact Kd.R_nil _ _ _ _ _ | exact Kd.N_nil _ _ _ _ _ | exact Kd.V_nil _ _ _ _ _ | exact Kd.Q_nil _ _ _ _ _ | exact Kd.S_nil _ _ _ _ _⟩, ⟨Qa0⟩⟩
 case round =>
  clear H'
  try clear c1; try clear p2
  obtain ⟨x5_1, x6_1, x7_1, rfl, rfl, HA, HK1, HO_5, HB⟩ := hrel
  cases gk with
  | zero => exact absurd HA.out (by simp [r1_Plus.l0])
  | succ k1 =>
   have H := HA.out
   clear HA
   simp only [r1_Plus.l0] at H
   have HC3 := Yt.mk H
   clear H
   go_upto_region 4 with (fail)
   go_cut [17] (fun v17 wc => ∃ (kq : Nat) (x17_2 : Bool), v17 = .bool x17_2 ∧ Yt (r1_Plus.j1 kq l0 l1 x5_1 x6_1 x7_1 x17_2 = some r) ∧ Yt (kq ≤ k1) ∧ Yt (Kd.R (Kd.int .u32) 47 wc w.heap.size (fun _ => True) u5 x5_1) ∧ Yt (Below w.heap.size w wc))
   case first =>
    have H := HC3.out
    clear HC3
    by_cases c4 : x7_1 < (l0.length : Int)
    ·rw [if_pos c4] at H
     have c4b0 : decide (x7_1 < (l0.length : Int)) = true := decide_eq_true c4
     clear c4
     (first | rw [c4b0] | rw [c4b1] | (simp only [Yi, Yj]; rw [c4b0]) | skip)
     have H' := Yt.mk H
     clear H
     go_wp2
     go_meet
     case rel => exact ⟨_, (true), Qa5, H', ⟨by have := HK1.out; first | omega | exact Nat.le_refl _⟩, ⟨Qr1 HO_5.out⟩, ⟨Qa0⟩⟩
    rw [if_neg c4] at H
    have c4b0 : decide (x7_1 < (l0.length : Int)) = false := decide_eq_false c4
    clear c4
    (first | rw [c4b0] | rw [c4b1] | (simp only [Yi, Yj]; rw [c4b0]) | skip)
    have H' := Yt.mk H
    clear H
    go_wp2
    go_meet
    case rel => exact ⟨_, (decide (x7_1 < (l1.length : Int))), Qa5, H', ⟨by have := HK1.out; first | omega | exact Nat.le_refl _⟩, ⟨Qr1 HO_5.out⟩, ⟨Qa0⟩⟩
   case rest =>
    clear HC3
    try clear c1; try clear p2; try clear c3; try clear c4; try clear c4b0; try clear c4b1; try clear p2
    obtain ⟨kq, x17_2, rfl, HA, HJ2, HO_5, HB⟩ := hcut
    cases kq with
    | zero => exact absurd HA.out (by simp [r1_Plus.j1])
    | succ kj2 =>
     have H := HA.out
     clear HA
     simp only [r1_Plus.j1] at H
     by_cases c5 : x17_2 = true
     rotate_left
     ·replace c5 := Bool.eq_false_iff.mpr c5
      subst c5
      rw [if_neg (show ¬ (false = true) by decide)] at H
      by_cases c19 : x5_1.length < 35184372088832
      rotate_left
      ·rw [if_neg c19] at H
       exact absurd H (by simp)
      rw [if_pos c19] at H
      have LMc19 := Yt.mk c19
      clear c19
      obtain ⟨y459, hy459⟩ : ∃ y_ : List Int, y_ = (x5_1 ++ [(x6_1) % 4294967296]) := ⟨_, rfl⟩
      replace H : ((r1_Trim.f kj2 y459).bind fun t462 => (some t462)) = some r := Qh hy459 H
      have Ny459 := Yt.mk hy459
      clear hy459
      replace H := Option.bind_eq_some_iff.mp H
      obtain ⟨t462, A200, H⟩ := H
      replace H : (some t462) = some r := H
      have A20 := Yt.mk A200
      clear A200
      obtain rfl := Option.some.inj H
      go_wp2_with (first | ((with_reducible refine gate_builtin (b := .append) (xs := #[.tmp 50, .tmp 53]) rfl ?_); (try (refine gate_guard (by rfl) ?_; dsimp only)); at_builtin; refine Kd.R_append (Kd.int .u32) (w0 := w) w.heap.size rfl (.tmp 50) (.tmp 53) 22 47 (.int .u32 0) 4 rfl Try.underlying22 info47 rfl (by decide) (by omega) u5 x5_1 ((x6_1) % 4294967296) [.int .u32 ((x6_1) % 4294967296)] (fun _ => True) (fun _ => False) rfl rfl ?aP (fun _ hk => hk.elim) ?aF ?aO ?aB ?aS ?aL ?_; (case aP => exact rfl); (case aB => exact (Qa0)); (case aF => exact (fun _ _ => trivial)); (case aO => exact (Qr1 HO_5.out)); (case aS => exact (Zk (Qa0))); (case aL => have := LMc19.out; omega); intro v460 w21 ho hb hg hat; rw [← Ny459.out] at ho; replace HB := Yt.mk (hb); have HO461 := Yt.mk (ho); clear HO_5; clear ho hb hg hat; obtain ⟨Ao22, co22, eo22⟩ := Kd.Zx HO461.out; subst eo22) | ((with_reducible refine Zr (f := 46) rfl ?_); refine Yg (some 56) rfl rfl Try.func46 Qa8 rfl #[.slice Ao22 y459.length co22] rfl Qa2 ?_; (with_reducible refine (r1_Trim.calls kj2 _ _ y459 t462 _ ?side1 ?side2 A20.out).mono ?_); (case side1 => exact Qe11 (Kd.Zs HO461.out).2.2); (case side2 => exact (Kd.Zs HO461.out).2.1); rintro e w23 ⟨v463, rfl, ho0, hb⟩; refine ⟨_, rfl, ?_⟩; have HO464 := Yt.mk (Kd.Yb (Kd.Ya ho0 (Kd.R_lt (Qr1 HO461.out))) (Zk (Qa0))); replace HO461 := Yt.mk (Kd.Yf (Qr1 HO461.out) (Kd.Zw ho0) hb); replace HB := Yt.mk (Zm (Qa0) hb); (try clear hb); (try clear ho0)))
      go_ret
      exact ⟨_, Qa4, by (with_reducible repeat (first | apply Kd.Zf | apply Kd.Ze | apply Kd.Zj)); exact Kd.Zv HO464.out (fun _ hk => trivial), Qa0⟩
     subst c5
     rw [if_pos rfl] at H
     by_cases c6 : x7_1 < (l0.length : Int)
     rotate_left
     ·rw [if_neg c6] at H
      have c6b0 : decide (x7_1 < (l0.length : Int)) = false := decide_eq_false c6
      clear c6
      by_cases c13 : x7_1 < (l1.length : Int)
      rotate_left
      ·rw [if_neg c13] at H
       have c13b0 : decide (x7_1 < (l1.length : Int)) = false := decide_eq_false c13
       clear c13
       by_cases c17 : x5_1.length < 35184372088832
       rotate_left
       ·rw [if_neg c17] at H
        exact absurd H (by simp)
       rw [if_pos c17] at H
       have LMc17 := Yt.mk c17
       clear c17
       obtain ⟨y477, hy477⟩ : ∃ y_ : List Int, y_ = (x5_1 ++ [(Int.tmod x6_1 4294967296) % 4294967296]) := ⟨_, rfl⟩
       replace H : (r1_Plus.l0 kj2 l0 l1 y477 (IntKind.u64.wrap (Int.tdiv x6_1 4294967296)) (wrap64 (x7_1 + 1))) = some r := Qh hy477 H
       have Ny477 := Yt.mk hy477
       clear hy477
       have H' := Yt.mk H
       clear H
       go_wp2_with (first | ((with_reducible refine gate_builtin (b := .append) (xs := #[.tmp 42, .tmp 46]) rfl ?_); (try (refine gate_guard (by rfl) ?_; dsimp only)); at_builtin; refine Kd.R_append (Kd.int .u32) (w0 := w) w.heap.size rfl (.tmp 42) (.tmp 46) 22 47 (.int .u32 0) 4 rfl Try.underlying22 info47 rfl (by decide) (by omega) u5 x5_1 ((Int.tmod x6_1 4294967296) % 4294967296) [.int .u32 ((Int.tmod x6_1 4294967296) % 4294967296)] (fun _ => True) (fun _ => False) rfl rfl ?aP (fun _ hk => hk.elim) ?aF ?aO ?aB ?aS ?aL ?_; (case aP => exact rfl); (case aB => exact (Qa0)); (case aF => exact (fun _ _ => trivial)); (case aO => exact (Qr1 HO_5.out)); (case aS => exact (Zk (Qa0))); (case aL => have := LMc17.out; omega); intro v478 w18 ho hb hg hat; rw [← Ny477.out] at ho; replace HB := Yt.mk (hb); have HO479 := Yt.mk (ho); clear HO_5; clear ho hb hg hat))
       go_roundg kj2
       case measure => have := HK1.out; have := HJ2.out; omega
       case rel => exact ⟨(y477), (IntKind.u64.wrap (Int.tdiv x6_1 4294967296)), (wrap64 (x7_1 + 1)), Qa5, Qa5, H', ⟨by have := HK1.out; have := HJ2.out; omega⟩, ⟨Qr1 HO479.out⟩, ⟨Qa0⟩⟩
      rw [if_pos c13] at H
      have c13b0 : decide (x7_1 < (l1.length : Int)) = true := decide_eq_true c13
      clear c13
      by_cases c14 : 0 ≤ x7_1
      rotate_left
      ·rw [if_neg c14] at H
       exact absurd H (by simp)
      rw [if_pos c14] at H
      have c14b0 : decide (0 ≤ x7_1) = true := decide_eq_true c14
      clear c14
      by_cases c15 : x5_1.length < 35184372088832
      rotate_left
      ·rw [if_neg c15] at H
       exact absurd H (by simp)
      rw [if_pos c15] at H
      have LMc15 := Yt.mk c15
      clear c15
      obtain ⟨y474, hy474⟩ : ∃ y_ : List Int, y_ = (x5_1 ++ [(Int.tmod (IntKind.u64.wrap (x6_1 + (IntKind.u64.wrap (rd l1 x7_1)))) 4294967296) % 4294967296]) := ⟨_, rfl⟩
      replace H : (r1_Plus.l0 kj2 l0 l1 y474 (IntKind.u64.wrap (Int.tdiv (IntKind.u64.wrap (x6_1 + (IntKind.u64.wrap (rd l1 x7_1)))) 4294967296)) (wrap64 (x7_1 + 1))) = some r := Qh hy474 H
      have Ny474 := Yt.mk hy474
      clear hy474
      have H' := Yt.mk H
      clear H
      have p473 : 0 ≤ (x7_1 : Int) := Qd
      have q473 : x7_1 < (l1.length : Int) := Qd
      obtain ⟨ad473, e473, hx473_0⟩ := Kd.at_int HR1.out x7_1 p473 q473
      cases e473
      replace hx473_0 := (HB.out.cell (World.block_lt_of_cell? w _ hx473_0)).trans hx473_0
      replace p473 := eq_true p473
      replace q473 := eq_true q473
      go_wp2_with (first | ((with_reducible refine gate_builtin (b := .append) (xs := #[.tmp 42, .tmp 46]) rfl ?_); (try (refine gate_guard (by rfl) ?_; dsimp only)); at_builtin; refine Kd.R_append (Kd.int .u32) (w0 := w) w.heap.size rfl (.tmp 42) (.tmp 46) 22 47 (.int .u32 0) 4 rfl Try.underlying22 info47 rfl (by decide) (by omega) u5 x5_1 ((Int.tmod (IntKind.u64.wrap (x6_1 + (IntKind.u64.wrap (rd l1 x7_1)))) 4294967296) % 4294967296) [.int .u32 ((Int.tmod (IntKind.u64.wrap (x6_1 + (IntKind.u64.wrap (rd l1 x7_1)))) 4294967296) % 4294967296)] (fun _ => True) (fun _ => False) rfl rfl ?aP (fun _ hk => hk.elim) ?aF ?aO ?aB ?aS ?aL ?_; (case aP => exact rfl); (case aB => exact (Qa0)); (case aF => exact (fun _ _ => trivial)); (case aO => exact (Qr1 HO_5.out)); (case aS => exact (Zk (Qa0))); (case aL => have := LMc15.out; omega); intro v475 w16 ho hb hg hat; rw [← Ny474.out] at ho; replace HB := Yt.mk (hb); have HO476 := Yt.mk (ho); clear HO_5; clear ho hb hg hat))
      go_roundg kj2
      case measure => have := HK1.out; have := HJ2.out; omega
      case rel => exact ⟨(y474), (IntKind.u64.wrap (Int.tdiv (IntKind.u64.wrap (x6_1 + (IntKind.u64.wrap (rd l1 x7_1)))) 4294967296)), (wrap64 (x7_1 + 1)), Qa5, Qa5, H', ⟨by have := HK1.out; have := HJ2.out; omega⟩, ⟨Qr1 HO476.out⟩, ⟨Qa0⟩⟩
     rw [if_pos c6] at H
     have c6b0 : decide (x7_1 < (l0.length : Int)) = true := decide_eq_true c6
     clear c6
     by_cases c7 : 0 ≤ x7_1
     rotate_left
     ·rw [if_neg c7] at H
      exact absurd H (by simp)
     rw [if_pos c7] at H
     have c7b0 : decide (0 ≤ x7_1) = true := decide_eq_true c7
     clear c7
     by_cases c8 : x7_1 < (l1.length : Int)
     rotate_left
     ·rw [if_neg c8] at H
      have c8b0 : decide (x7_1 < (l1.length : Int)) = false := decide_eq_false c8
      clear c8
      by_cases c11 : x5_1.length < 35184372088832
      rotate_left
      ·rw [if_neg c11] at H
       exact absurd H (by simp)
      rw [if_pos c11] at H
      have LMc11 := Yt.mk c11
      clear c11
      obtain ⟨y470, hy470⟩ : ∃ y_ : List Int, y_ = (x5_1 ++ [(Int.tmod (IntKind.u64.wrap (x6_1 + (IntKind.u64.wrap (rd l0 x7_1)))) 4294967296) % 4294967296]) := ⟨_, rfl⟩
      replace H : (r1_Plus.l0 kj2 l0 l1 y470 (IntKind.u64.wrap (Int.tdiv (IntKind.u64.wrap (x6_1 + (IntKind.u64.wrap (rd l0 x7_1)))) 4294967296)) (wrap64 (x7_1 + 1))) = some r := Qh hy470 H
      have Ny470 := Yt.mk hy470
      clear hy470
      have H' := Yt.mk H
      clear H
      have p465 : 0 ≤ (x7_1 : Int) := Qd
      have q465 : x7_1 < (l0.length : Int) := Qd
      obtain ⟨ad465, e465, hx465_0⟩ := Kd.at_int HR0.out x7_1 p465 q465
      cases e465
      replace hx465_0 := (HB.out.cell (World.block_lt_of_cell? w _ hx465_0)).trans hx465_0
      replace p465 := eq_true p465
      replace q465 := eq_true q465
      go_wp2_with (first | ((with_reducible refine gate_builtin (b := .append) (xs := #[.tmp 42, .tmp 46]) rfl ?_); (try (refine gate_guard (by rfl) ?_; dsimp only)); at_builtin; refine Kd.R_append (Kd.int .u32) (w0 := w) w.heap.size rfl (.tmp 42) (.tmp 46) 22 47 (.int .u32 0) 4 rfl Try.underlying22 info47 rfl (by decide) (by omega) u5 x5_1 ((Int.tmod (IntKind.u64.wrap (x6_1 + (IntKind.u64.wrap (rd l0 x7_1)))) 4294967296) % 4294967296) [.int .u32 ((Int.tmod (IntKind.u64.wrap (x6_1 + (IntKind.u64.wrap (rd l0 x7_1)))) 4294967296) % 4294967296)] (fun _ => True) (fun _ => False) rfl rfl ?aP (fun _ hk => hk.elim) ?aF ?aO ?aB ?aS ?aL ?_; (case aP => exact rfl); (case aB => exact (Qa0)); (case aF => exact (fun _ _ => trivial)); (case aO => exact (Qr1 HO_5.out)); (case aS => exact (Zk (Qa0))); (case aL => have := LMc11.out; omega); intro v471 w12 ho hb hg hat; rw [← Ny470.out] at ho; replace HB := Yt.mk (hb); have HO472 := Yt.mk (ho); clear HO_5; clear ho hb hg hat))
      go_roundg kj2
      case measure => have := HK1.out; have := HJ2.out; omega
      case rel => exact ⟨(y470), (IntKind.u64.wrap (Int.tdiv (IntKind.u64.wrap (x6_1 + (IntKind.u64.wrap (rd l0 x7_1)))) 4294967296)), (wrap64 (x7_1 + 1)), Qa5, Qa5, H', ⟨by have := HK1.out; have := HJ2.out; omega⟩, ⟨Qr1 HO472.out⟩, ⟨Qa0⟩⟩
     rw [if_pos c8] at H
     have c8b0 : decide (x7_1 < (l1.length : Int)) = true := decide_eq_true c8
     clear c8
     by_cases c9 : x5_1.length < 35184372088832
     rotate_left
     ·rw [if_neg c9] at H
      exact absurd H (by simp)
     rw [if_pos c9] at H
     have LMc9 := Yt.mk c9
     clear c9
     obtain ⟨y467, hy467⟩ : ∃ y_ : List Int, y_ = (x5_1 ++ [(Int.tmod (IntKind.u64.wrap ((IntKind.u64.wrap (x6_1 + (IntKind.u64.wrap (rd l0 x7_1)))) + (IntKind.u64.wrap (rd l1 x7_1)))) 4294967296) % 4294967296]) := ⟨_, rfl⟩
     replace H : (r1_Plus.l0 kj2 l0 l1 y467 (IntKind.u64.wrap (Int.tdiv (IntKind.u64.wrap ((IntKind.u64.wrap (x6_1 + (IntKind.u64.wrap (rd l0 x7_1)))) + (IntKind.u64.wrap (rd l1 x7_1)))) 4294967296)) (wrap64 (x7_1 + 1))) = some r := Qh hy467 H
     have Ny467 := Yt.mk hy467
     clear hy467
     have H' := Yt.mk H
     clear H
     have p465 : 0 ≤ (x7_1 : Int) := Qd
     have q465 : x7_1 < (l0.length : Int) := Qd
     obtain ⟨ad465, e465, hx465_0⟩ := Kd.at_int HR0.out x7_1 p465 q465
     cases e465
     replace hx465_0 := (HB.out.cell (World.block_lt_of_cell? w _ hx465_0)).trans hx465_0
     replace p465 := eq_true p465
     replace q465 := eq_true q465
     have p466 : 0 ≤ (x7_1 : Int) := Qd
     have q466 : x7_1 < (l1.length : Int) := Qd
     obtain ⟨ad466, e466, hx466_0⟩ := Kd.at_int HR1.out x7_1 p466 q466
     cases e466
     replace hx466_0 := (HB.out.cell (World.block_lt_of_cell? w _ hx466_0)).trans hx466_0
     replace p466 := eq_true p466
     replace q466 := eq_true q466
     go_wp2_with (first | ((with_reducible refine gate_builtin (b := .append) (xs := #[.tmp 42, .tmp 46]) rfl ?_); (try (refine gate_guard (by rfl) ?_; dsimp only)); at_builtin; refine Kd.R_append (Kd.int .u32) (w0 := w) w.heap.size rfl (.tmp 42) (.tmp 46) 22 47 (.int .u32 0) 4 rfl Try.underlying22 info47 rfl (by decide) (by omega) u5 x5_1 ((Int.tmod (IntKind.u64.wrap ((IntKind.u64.wrap (x6_1 + (IntKind.u64.wrap (rd l0 x7_1)))) + (IntKind.u64.wrap (rd l1 x7_1)))) 4294967296) % 4294967296) [.int .u32 ((Int.tmod (IntKind.u64.wrap ((IntKind.u64.wrap (x6_1 + (IntKind.u64.wrap (rd l0 x7_1)))) + (IntKind.u64.wrap (rd l1 x7_1)))) 4294967296) % 4294967296)] (fun _ => True) (fun _ => False) rfl rfl ?aP (fun _ hk => hk.elim) ?aF ?aO ?aB ?aS ?aL ?_; (case aP => exact rfl); (case aB => exact (Qa0)); (case aF => exact (fun _ _ => trivial)); (case aO => exact (Qr1 HO_5.out)); (case aS => exact (Zk (Qa0))); (case aL => have := LMc9.out; omega); intro v468 w10 ho hb hg hat; rw [← Ny467.out] at ho; replace HB := Yt.mk (hb); have HO469 := Yt.mk (ho); clear HO_5; clear ho hb hg hat))
     go_roundg kj2
     case measure => have := HK1.out; have := HJ2.out; omega
     case rel => exact ⟨(y467), (IntKind.u64.wrap (Int.tdiv (IntKind.u64.wrap ((IntKind.u64.wrap (x6_1 + (IntKind.u64.wrap (rd l0 x7_1)))) + (IntKind.u64.wrap (rd l1 x7_1)))) 4294967296)), (wrap64 (x7_1 + 1)), Qa5, Qa5, H', ⟨by have := HK1.out; have := HJ2.out; omega⟩, ⟨Qr1 HO469.out⟩, ⟨Qa0⟩⟩
def r1_Minus.l0 : Nat → List Int → List Int → Int → Int → Option (List Int)
 | 0, _, _, _, _ => none
 | k + 1, x5, x6, x7, x8 => if x8 < (x5.length : Int) then (if 0 ≤ x8 then (if x8 < (x6.length : Int) then (if (wrap64 ((wrap64 ((wrap64 (rd x5 x8)) - x7)) - (wrap64 (rd x6 x8)))) < 0 then (r1_Minus.l0 k (x5.set (x8 : Int).toNat ((wrap64 ((wrap64 ((wrap64 ((wrap64 (rd x5 x8)) - x7)) - (wrap64 (rd x6 x8)))) + 4294967296)) % 4294967296)) x6 1 (wrap64 (x8 + 1))) else (r1_Minus.l0 k (x5.set (x8 : Int).toNat ((wrap64 ((wrap64 ((wrap64 (rd x5 x8)) - x7)) - (wrap64 (rd x6 x8)))) % 4294967296)) x6 0 (wrap64 (x8 + 1)))) else (if (wrap64 ((wrap64 (rd x5 x8)) - x7)) < 0 then (r1_Minus.l0 k (x5.set (x8 : Int).toNat ((wrap64 ((wrap64 ((wrap64 (rd x5 x8)) - x7)) + 4294967296)) % 4294967296)) x6 1 (wrap64 (x8 + 1))) else (r1_Minus.l0 k (x5.set (x8 : Int).toNat ((wrap64 ((wrap64 (rd x5 x8)) - x7)) % 4294967296)) x6 0 (wrap64 (x8 + 1))))) else (none)) else ((r1_Trim.f k x5).bind fun t486 => (some t486))
def r1_Minus.f (k : Nat) (l0 : List Int) (l1 : List Int) : Option (List Int) := (r1_Trim.f k l0).bind fun t480 => ((r1_Trim.f k l1).bind fun t483 => (r1_Minus.l0 k t480 t483 0 0))
theorem r1_Minus.calls (k : Nat) (A0 : Option Addr) (c0 : Nat) (l0 : List Int) (A1 : Option Addr) (c1 : Nat) (l1 : List Int) (r : List Int) (w : World) (hr0 : Kd.C (Kd.int .u32) w A0 l0.length l0) (hc0 : l0.length ≤ c0) (hr1 : Kd.C (Kd.int .u32) w A1 l1.length l1) (hc1 : l1.length ≤ c1) (h : r1_Minus.f k l0 l1 = some r) :
  Calls Try.prog 45 #[.slice A0 l0.length c0, .slice A1 l1.length c1] w fun e w' => ∃ v0_ : Value, e = .returned (v0_) ∧ Kd.R (Kd.int .u32) 47 w' w.heap.size (fun _ => True) v0_ r ∧ Below w.heap.size w w' := by
 have HR0 := Yt.mk hr0
 have HC0 := Yt.mk hc0
 clear hr0 hc0
 have HR1 := Yt.mk hr1
 have HC1 := Yt.mk hc1
 clear hr1 hc1
 have HB := Yt.mk (Below.refl w.heap.size w)
 unfold r1_Minus.f at h
 have H := h
 clear h
 replace H := Option.bind_eq_some_iff.mp H
 obtain ⟨t480, A30, H⟩ := H
 try dsimp only at H
 have A3 := Yt.mk A30
 clear A30
 replace H := Option.bind_eq_some_iff.mp H
 obtain ⟨t483, A40, H⟩ := H
 replace H : (r1_Minus.l0 k t480 t483 0 0) = some r := H
 have A4 := Yt.mk A40
 clear A40
 have H' := Yt.mk H
 clear H
 go_enter Try.func45, Try.ntmps45
 go_wp2_with (first | ((with_reducible refine Zr (f := 46) rfl ?_); refine Yg (some 11) rfl rfl Try.func46 Qa8 rfl #[.slice A0 l0.length c0] rfl Qa2 ?_; (with_reducible refine (r1_Trim.calls k _ _ l0 t480 _ ?side1 ?side2 A3.out).mono ?_); (case side1 => exact Qe11 HR0.out); (case side2 => exact HC0.out); rintro e w5 ⟨v481, rfl, ho0, hb⟩; refine ⟨_, rfl, ?_⟩; have HO482 := Yt.mk (Kd.Yb ho0 (Zk (Qa0))); replace HB := Yt.mk (Zm (Qa0) hb); (try clear hb); (try clear ho0)) | ((with_reducible refine Zr (f := 46) rfl ?_); refine Yg (some 13) rfl rfl Try.func46 Qa8 rfl #[.slice A1 l1.length c1] rfl Qa2 ?_; (with_reducible refine (r1_Trim.calls k _ _ l1 t483 _ ?side1 ?side2 A4.out).mono ?_); (case side1 => exact Qe11 (Kd.Ys HR1.out HB.out)); (case side2 => exact HC1.out); rintro e w6 ⟨v484, rfl, ho0, hb⟩; refine ⟨_, rfl, ?_⟩; have HO485 := Yt.mk (Kd.Yb (Kd.Ya ho0 (Kd.R_lt (Qr1 HO482.out))) (Zk (Qa0))); replace HO482 := Yt.mk (Kd.Yf (Qr1 HO482.out) (Kd.Zw ho0) hb); replace HB := Yt.mk (Zm (Qa0) hb); (try clear hb); (try clear ho0)))
 go_loopg [7, 8] k (fun kq v7 v8 w' => ∃ (x5_1 : List Int) (x7_1 : Int) (x8_1 : Int), v7 = .int .i64 x7_1 ∧ v8 = .int .i64 x8_1 ∧ Yt (r1_Minus.l0 kq x5_1 t483 x7_1 x8_1 = some r) ∧ Yt (kq ≤ k) ∧ Yt (Kd.R (Kd.int .u32) 47 w' w.heap.size (fun k_ => some k_ ≠ (v484 : Value).ownBlock) v481 x5_1) ∧ Yt (Kd.R (Kd.int .u32) 47 w' w.heap.size (fun k_ => some k_ ≠ (v481 : Value).ownBlock) v484 t483) ∧ Yt (Below w.heap.size w w'))
 case atStart => exact ⟨(t480), (0), (0), Qa5, Qa5, H', ⟨Nat.le_refl _⟩, ⟨by (with_reducible repeat (first | apply Kd.Zf | apply Kd.Ze | apply Kd.Zj)); exact Kd.Zv HO482.out (fun _ hk => hk.2)⟩, ⟨by (with_reducible repeat (first | apply Kd.Zf | apply Kd.Ze | apply Kd.Zj)); exact Kd.Zv HO485.out (fun _ hk => hk.2)⟩, ⟨Qa0⟩⟩
 case round =>
  clear H'
  try clear c1; try clear p2; try clear c4
  obtain ⟨x5_1, x7_1, x8_1, rfl, rfl, HA, HK1, HO_5, HO_6, HB⟩ := hrel
  cases gk with
  | zero => exact absurd HA.out (by simp [r1_Minus.l0])
  | succ k1 =>
   have H := HA.out
   clear HA
   simp only [r1_Minus.l0] at H
   by_cases c7 : x8_1 < (x5_1.length : Int)
   rotate_left
   ·rw [if_neg c7] at H
    have c7b0 : decide (x8_1 < (x5_1.length : Int)) = false := decide_eq_false c7
    clear c7
    replace H := Option.bind_eq_some_iff.mp H
    obtain ⟨t486, A320, H⟩ := H
    replace H : (some t486) = some r := H
    have A32 := Yt.mk A320
    clear A320
    obtain rfl := Option.some.inj H
    obtain ⟨Ao33, co33, eo33⟩ := Kd.Zx HO_5.out
    subst eo33
    go_wp2_with (first | ((with_reducible refine Zr (f := 46) rfl ?_); refine Yg (some 48) rfl rfl Try.func46 Qa8 rfl #[.slice Ao33 x5_1.length co33] rfl Qa2 ?_; (with_reducible refine (r1_Trim.calls k1 _ _ x5_1 t486 _ ?side1 ?side2 A32.out).mono ?_); (case side1 => exact Qe11 (Kd.Zs HO_5.out).2.2); (case side2 => exact (Kd.Zs HO_5.out).2.1); rintro e w34 ⟨v487, rfl, ho0, hb⟩; refine ⟨_, rfl, ?_⟩; have HO488 := Yt.mk (Kd.Yb (Kd.Ya (Kd.Ya ho0 (Kd.R_lt (Qr1 HO_5.out))) (Kd.R_lt (Qr1 HO_6.out))) (Zk (Qa0))); replace HO_5 := Yt.mk (Kd.Yf (Qr1 HO_5.out) (Kd.Zw ho0) hb); replace HO_6 := Yt.mk (Kd.Yf (Qr1 HO_6.out) (Kd.Zw ho0) hb); replace HB := Yt.mk (Zm (Qa0) hb); (try clear hb); (try clear ho0)))
    go_ret
    exact ⟨_, Qa4, by (with_reducible repeat (first | apply Kd.Zf | apply Kd.Ze | apply Kd.Zj)); exact Kd.Zv HO488.out (fun _ hk => trivial), Qa0⟩
   rw [if_pos c7] at H
   have c7b0 : decide (x8_1 < (x5_1.length : Int)) = true := decide_eq_true c7
   clear c7
   by_cases c8 : 0 ≤ x8_1
   rotate_left
   ·rw [if_neg c8] at H
    exact absurd H (by simp)
   rw [if_pos c8] at H
   have c8b0 : decide (0 ≤ x8_1) = true := decide_eq_true c8
   clear c8
   by_cases c9 : x8_1 < (t483.length : Int)
   rotate_left
   ·rw [if_neg c9] at H
    have c9b0 : decide (x8_1 < (t483.length : Int)) = false := decide_eq_false c9
    clear c9
    by_cases c21 : (wrap64 ((wrap64 (rd x5_1 x8_1)) - x7_1)) < 0
    ·rw [if_pos c21] at H
     have c21b0 : decide ((wrap64 ((wrap64 (rd x5_1 x8_1)) - x7_1)) < 0) = true := decide_eq_true c21
     clear c21
     obtain ⟨y493, hy493⟩ : ∃ y_ : List Int, y_ = (x5_1.set (x8_1 : Int).toNat ((wrap64 ((wrap64 ((wrap64 (rd x5_1 x8_1)) - x7_1)) + 4294967296)) % 4294967296)) := ⟨_, rfl⟩
     replace H : (r1_Minus.l0 k1 y493 t483 1 (wrap64 (x8_1 + 1))) = some r := Qh hy493 H
     have Ny493 := Yt.mk hy493
     clear hy493
     have H' := Yt.mk H
     clear H
     obtain ⟨Ao23, co23, eo23⟩ := Kd.Zx HO_5.out
     subst eo23
     have p489 : 0 ≤ (x8_1 : Int) := Qd
     have q489 : x8_1 < (x5_1.length : Int) := Qd
     obtain ⟨ad489, e489, hx489_0⟩ := Kd.at_int (Kd.Zs HO_5.out).2.2 x8_1 p489 q489
     cases e489
     replace p489 := eq_true p489
     replace q489 := eq_true q489
     obtain ⟨Ao24, co24, eo24⟩ := Kd.Zx HO_6.out
     subst eo24
     have p22 : 0 ≤ (x8_1 : Int) := Qd
     have q22 : (x8_1 : Int) < ((x5_1.length : Int) : Int) := Qd
     obtain ⟨go22, co22, eo22, gb22, gl22, cl22, HG22⟩ := Kd.R_form HO_5.out (by omega)
     (first | cases eo22 | (injection eo22 with ea_ en_ ec_; (first | subst ea_ | (injection ea_ with ea_; subst ea_)); subst ec_; clear en_))
     have GB22 := Yt.mk gb22
     have GG22 := Yt.mk HG22
     clear gb22 gl22 HG22
     (first | simp only [add_plain] at hx489_0 | skip)
     obtain ⟨hx22_0, hf22_0⟩ := Kd.R_celln 0 HO_5.out (x8_1 : Int) p22 q22
     replace p22 := eq_true p22
     replace q22 := eq_true q22
     obtain ⟨hy25_, hz25_⟩ := Kd.R_celln 0 HO_5.out (x8_1 : Int) (Qd) (Qd)
     have HP25 := Kd.R_putg HO_5.out (x8_1 : Int) ((wrap64 ((wrap64 ((wrap64 (rd x5_1 x8_1)) - x7_1)) + 4294967296)) % 4294967296)
     go_wp2_with (first | ((with_reducible refine gate_store (t := 47) (p := 46) rfl ?_); refine store_event (t := 47) (p := 46) (v := ?vo_w26) (w1 := (wr.setCell ⟨go22, (x8_1 : Int).toNat, none⟩ (.int .u32 ((wrap64 ((wrap64 ((wrap64 (rd x5_1 x8_1)) - x7_1)) + 4294967296)) % 4294967296)))) ?hg ?ho ?hn ?hr ?_; (case ho => rfl); (case hg => rfl); (case hn => rfl); (case hr => exact Qa9); intro w26 hw; have hg : wr.grownBy w26 (some go22) := (by rw [hw]; exact HP25.2); have hp_ : Kd.R (Kd.int .u32) 47 w26 w.heap.size (fun k_ => some k_ ≠ (.slice Ao24 t483.length co24 : Value).ownBlock) (.slice (some ⟨go22, 0, none⟩) x5_1.length co23) y493 := (by rw [hw, Ny493.out]; exact HP25.1); clear HP25; replace HO_5 := Yt.mk (hp_); replace HO_6 := Yt.mk (Kd.R_after (v := (.slice (some ⟨go22, 0, none⟩) x5_1.length co23)) (v1 := (.slice (some ⟨go22, 0, none⟩) x5_1.length co23)) (ok := (fun _ => True)) (by (with_reducible repeat (first | apply Kd.Zf | apply Kd.Ze | apply Kd.Zj)); exact Kd.Zv HO_6.out (fun _ hk => ⟨trivial, hk⟩)) hg (.inl rfl)); replace HB := Yt.mk ((by rw [hw]; exact Zd (HB.out) GB22.out : Below w.heap.size w w26)); clear hg hw hp_))
     go_roundg k1
     case measure => have := HK1.out; omega
     case rel => exact ⟨(y493), (1), (wrap64 (x8_1 + 1)), Qa5, Qa5, H', ⟨by have := HK1.out; omega⟩, ⟨Qr1 HO_5.out⟩, ⟨by (with_reducible repeat (first | apply Kd.Zf | apply Kd.Ze | apply Kd.Zj)); exact Kd.Zv HO_6.out (fun _ hk => hk.2)⟩, ⟨Qa0⟩⟩
    rw [if_neg c21] at H
    have c21b0 : decide ((wrap64 ((wrap64 (rd x5_1 x8_1)) - x7_1)) < 0) = false := decide_eq_false c21
    clear c21
    obtain ⟨y494, hy494⟩ : ∃ y_ : List Int, y_ = (x5_1.set (x8_1 : Int).toNat ((wrap64 ((wrap64 (rd x5_1 x8_1)) - x7_1)) % 4294967296)) := ⟨_, rfl⟩
    replace H : (r1_Minus.l0 k1 y494 t483 0 (wrap64 (x8_1 + 1))) = some r := Qh hy494 H
    have Ny494 := Yt.mk hy494
    clear hy494
    have H' := Yt.mk H
    clear H
    obtain ⟨Ao28, co28, eo28⟩ := Kd.Zx HO_5.out
    subst eo28
    have p489 : 0 ≤ (x8_1 : Int) := Qd
    have q489 : x8_1 < (x5_1.length : Int) := Qd
    obtain ⟨ad489, e489, hx489_0⟩ := Kd.at_int (Kd.Zs HO_5.out).2.2 x8_1 p489 q489
    cases e489
    replace p489 := eq_true p489
    replace q489 := eq_true q489
    obtain ⟨Ao29, co29, eo29⟩ := Kd.Zx HO_6.out
    subst eo29
    have p27 : 0 ≤ (x8_1 : Int) := Qd
    have q27 : (x8_1 : Int) < ((x5_1.length : Int) : Int) := Qd
    obtain ⟨go27, co27, eo27, gb27, gl27, cl27, HG27⟩ := Kd.R_form HO_5.out (by omega)
    (first | cases eo27 | (injection eo27 with ea_ en_ ec_; (first | subst ea_ | (injection ea_ with ea_; subst ea_)); subst ec_; clear en_))
    have GB27 := Yt.mk gb27
    have GG27 := Yt.mk HG27
    clear gb27 gl27 HG27
    (first | simp only [add_plain] at hx489_0 | skip)
    obtain ⟨hx27_0, hf27_0⟩ := Kd.R_celln 0 HO_5.out (x8_1 : Int) p27 q27
    replace p27 := eq_true p27
    replace q27 := eq_true q27
    obtain ⟨hy30_, hz30_⟩ := Kd.R_celln 0 HO_5.out (x8_1 : Int) (Qd) (Qd)
    have HP30 := Kd.R_putg HO_5.out (x8_1 : Int) ((wrap64 ((wrap64 (rd x5_1 x8_1)) - x7_1)) % 4294967296)
    go_wp2_with (first | ((with_reducible refine gate_store (t := 47) (p := 46) rfl ?_); refine store_event (t := 47) (p := 46) (v := ?vo_w31) (w1 := (wr.setCell ⟨go27, (x8_1 : Int).toNat, none⟩ (.int .u32 ((wrap64 ((wrap64 (rd x5_1 x8_1)) - x7_1)) % 4294967296)))) ?hg ?ho ?hn ?hr ?_; (case ho => rfl); (case hg => rfl); (case hn => rfl); (case hr => exact Qa9); intro w31 hw; have hg : wr.grownBy w31 (some go27) := (by rw [hw]; exact HP30.2); have hp_ : Kd.R (Kd.int .u32) 47 w31 w.heap.size (fun k_ => some k_ ≠ (.slice Ao29 t483.length co29 : Value).ownBlock) (.slice (some ⟨go27, 0, none⟩) x5_1.length co28) y494 := (by rw [hw, Ny494.out]; exact HP30.1); clear HP30; replace HO_5 := Yt.mk (hp_); replace HO_6 := Yt.mk (Kd.R_after (v := (.slice (some ⟨go27, 0, none⟩) x5_1.length co28)) (v1 := (.slice (some ⟨go27, 0, none⟩) x5_1.length co28)) (ok := (fun _ => True)) (by (with_reducible repeat (first | apply Kd.Zf | apply Kd.Ze | apply Kd.Zj)); exact Kd.Zv HO_6.out (fun _ hk => ⟨trivial, hk⟩)) hg (.inl rfl)); replace HB := Yt.mk ((by rw [hw]; exact Zd (HB.out) GB27.out : Below w.heap.size w w31)); clear hg hw hp_))
    go_roundg k1
    case measure => have := HK1.out; omega
    case rel => exact ⟨(y494), (0), (wrap64 (x8_1 + 1)), Qa5, Qa5, H', ⟨by have := HK1.out; omega⟩, ⟨Qr1 HO_5.out⟩, ⟨by (with_reducible repeat (first | apply Kd.Zf | apply Kd.Ze | apply Kd.Zj)); exact Kd.Zv HO_6.out (fun _ hk => hk.2)⟩, ⟨Qa0⟩⟩
   rw [if_pos c9] at H
   have c9b0 : decide (x8_1 < (t483.length : Int)) = true := decide_eq_true c9
   clear c9
   by_cases c10 : (wrap64 ((wrap64 ((wrap64 (rd x5_1 x8_1)) - x7_1)) - (wrap64 (rd t483 x8_1)))) < 0
   ·rw [if_pos c10] at H
    have c10b0 : decide ((wrap64 ((wrap64 ((wrap64 (rd x5_1 x8_1)) - x7_1)) - (wrap64 (rd t483 x8_1)))) < 0) = true := decide_eq_true c10
    clear c10
    obtain ⟨y491, hy491⟩ : ∃ y_ : List Int, y_ = (x5_1.set (x8_1 : Int).toNat ((wrap64 ((wrap64 ((wrap64 ((wrap64 (rd x5_1 x8_1)) - x7_1)) - (wrap64 (rd t483 x8_1)))) + 4294967296)) % 4294967296)) := ⟨_, rfl⟩
    replace H : (r1_Minus.l0 k1 y491 t483 1 (wrap64 (x8_1 + 1))) = some r := Qh hy491 H
    have Ny491 := Yt.mk hy491
    clear hy491
    have H' := Yt.mk H
    clear H
    obtain ⟨Ao12, co12, eo12⟩ := Kd.Zx HO_5.out
    subst eo12
    have p489 : 0 ≤ (x8_1 : Int) := Qd
    have q489 : x8_1 < (x5_1.length : Int) := Qd
    obtain ⟨ad489, e489, hx489_0⟩ := Kd.at_int (Kd.Zs HO_5.out).2.2 x8_1 p489 q489
    cases e489
    replace p489 := eq_true p489
    replace q489 := eq_true q489
    obtain ⟨Ao13, co13, eo13⟩ := Kd.Zx HO_6.out
    subst eo13
    have p490 : 0 ≤ (x8_1 : Int) := Qd
    have q490 : x8_1 < (t483.length : Int) := Qd
    obtain ⟨ad490, e490, hx490_0⟩ := Kd.at_int (Kd.Zs HO_6.out).2.2 x8_1 p490 q490
    cases e490
    replace p490 := eq_true p490
    replace q490 := eq_true q490
    have p11 : 0 ≤ (x8_1 : Int) := Qd
    have q11 : (x8_1 : Int) < ((x5_1.length : Int) : Int) := Qd
    obtain ⟨go11, co11, eo11, gb11, gl11, cl11, HG11⟩ := Kd.R_form HO_5.out (by omega)
    (first | cases eo11 | (injection eo11 with ea_ en_ ec_; (first | subst ea_ | (injection ea_ with ea_; subst ea_)); subst ec_; clear en_))
    have GB11 := Yt.mk gb11
    have GG11 := Yt.mk HG11
    clear gb11 gl11 HG11
    (first | simp only [add_plain] at hx489_0 | skip)
    obtain ⟨hx11_0, hf11_0⟩ := Kd.R_celln 0 HO_5.out (x8_1 : Int) p11 q11
    replace p11 := eq_true p11
    replace q11 := eq_true q11
    obtain ⟨hy14_, hz14_⟩ := Kd.R_celln 0 HO_5.out (x8_1 : Int) (Qd) (Qd)
    have HP14 := Kd.R_putg HO_5.out (x8_1 : Int) ((wrap64 ((wrap64 ((wrap64 ((wrap64 (rd x5_1 x8_1)) - x7_1)) - (wrap64 (rd t483 x8_1)))) + 4294967296)) % 4294967296)
    go_wp2_with (first | ((with_reducible refine gate_store (t := 47) (p := 46) rfl ?_); refine store_event (t := 47) (p := 46) (v := ?vo_w15) (w1 := (wr.setCell ⟨go11, (x8_1 : Int).toNat, none⟩ (.int .u32 ((wrap64 ((wrap64 ((wrap64 ((wrap64 (rd x5_1 x8_1)) - x7_1)) - (wrap64 (rd t483 x8_1)))) + 4294967296)) % 4294967296)))) ?hg ?ho ?hn ?hr ?_; (case ho => rfl); (case hg => rfl); (case hn => rfl); (case hr => exact Qa9); intro w15 hw; have hg : wr.grownBy w15 (some go11) := (by rw [hw]; exact HP14.2); have hp_ : Kd.R (Kd.int .u32) 47 w15 w.heap.size (fun k_ => some k_ ≠ (.slice (some ad490) t483.length co13 : Value).ownBlock) (.slice (some ⟨go11, 0, none⟩) x5_1.length co12) y491 := (by rw [hw, Ny491.out]; exact HP14.1); clear HP14; replace HO_5 := Yt.mk (hp_); replace HO_6 := Yt.mk (Kd.R_after (v := (.slice (some ⟨go11, 0, none⟩) x5_1.length co12)) (v1 := (.slice (some ⟨go11, 0, none⟩) x5_1.length co12)) (ok := (fun _ => True)) (by (with_reducible repeat (first | apply Kd.Zf | apply Kd.Ze | apply Kd.Zj)); exact Kd.Zv HO_6.out (fun _ hk => ⟨trivial, hk⟩)) hg (.inl rfl)); replace HB := Yt.mk ((by rw [hw]; exact Zd (HB.out) GB11.out : Below w.heap.size w w15)); clear hg hw hp_))
    go_roundg k1
    case measure => have := HK1.out; omega
    case rel => exact ⟨(y491), (1), (wrap64 (x8_1 + 1)), Qa5, Qa5, H', ⟨by have := HK1.out; omega⟩, ⟨Qr1 HO_5.out⟩, ⟨by (with_reducible repeat (first | apply Kd.Zf | apply Kd.Ze | apply Kd.Zj)); exact Kd.Zv HO_6.out (fun _ hk => hk.2)⟩, ⟨Qa0⟩⟩
   rw [if_neg c10] at H
   have c10b0 : decide ((wrap64 ((wrap64 ((wrap64 (rd x5_1 x8_1)) - x7_1)) - (wrap64 (rd t483 x8_1)))) < 0) = false := decide_eq_false c10
   clear c10
   obtain ⟨y492, hy492⟩ : ∃ y_ : List Int, y_ = (x5_1.set (x8_1 : Int).toNat ((wrap64 ((wrap64 ((wrap64 (rd x5_1 x8_1)) - x7_1)) - (wrap64 (rd t483 x8_1)))) % 4294967296)) := ⟨_, rfl⟩
   replace H : (r1_Minus.l0 k1 y492 t483 0 (wrap64 (x8_1 + 1))) = some r := Qh hy492 H
   have Ny492 := Yt.mk hy492
   clear hy492
   have H' := Yt.mk H
   clear H
   obtain ⟨Ao17, co17, eo17⟩ := Kd.Zx HO_5.out
   subst eo17
   have p489 : 0 ≤ (x8_1 : Int) := Qd
   have q489 : x8_1 < (x5_1.length : Int) := Qd
   obtain ⟨ad489, e489, hx489_0⟩ := Kd.at_int (Kd.Zs HO_5.out).2.2 x8_1 p489 q489
   cases e489
   replace p489 := eq_true p489
   replace q489 := eq_true q489
   obtain ⟨Ao18, co18, eo18⟩ := Kd.Zx HO_6.out
   subst eo18
   have p490 : 0 ≤ (x8_1 : Int) := Qd
   have q490 : x8_1 < (t483.length : Int) := Qd
   obtain ⟨ad490, e490, hx490_0⟩ := Kd.at_int (Kd.Zs HO_6.out).2.2 x8_1 p490 q490
   cases e490
   replace p490 := eq_true p490
   replace q490 := eq_true q490
   have p16 : 0 ≤ (x8_1 : Int) := Qd
   have q16 : (x8_1 : Int) < ((x5_1.length : Int) : Int) := Qd
   obtain ⟨go16, co16, eo16, gb16, gl16, cl16, HG16⟩ := Kd.R_form HO_5.out (by omega)
   (first | cases eo16 | (injection eo16 with ea_ en_ ec_; (first | subst ea_ | (injection ea_ with ea_; subst ea_)); subst ec_; clear en_))
   have GB16 := Yt.mk gb16
   have GG16 := Yt.mk HG16
   clear gb16 gl16 HG16
   (first | simp only [add_plain] at hx489_0 | skip)
   obtain ⟨hx16_0, hf16_0⟩ := Kd.R_celln 0 HO_5.out (x8_1 : Int) p16 q16
   replace p16 := eq_true p16
   replace q16 := eq_true q16
   obtain ⟨hy19_, hz19_⟩ := Kd.R_celln 0 HO_5.out (x8_1 : Int) (Qd) (Qd)
   have HP19 := Kd.R_putg HO_5.out (x8_1 : Int) ((wrap64 ((wrap64 ((wrap64 (rd x5_1 x8_1)) - x7_1)) - (wrap64 (rd t483 x8_1)))) % 4294967296)
   go_wp2_with (first | ((with_reducible refine gate_store (t := 47) (p := 46) rfl ?_); refine store_event (t := 47) (p := 46) (v := ?vo_w20) (w1 := (wr.setCell ⟨go16, (x8_1 : Int).toNat, none⟩ (.int .u32 ((wrap64 ((wrap64 ((wrap64 (rd x5_1 x8_1)) - x7_1)) - (wrap64 (rd t483 x8_1)))) % 4294967296)))) ?hg ?ho ?hn ?hr ?_; (case ho => rfl); (case hg => rfl); (case hn => rfl); (case hr => exact Qa9); intro w20 hw; have hg : wr.grownBy w20 (some go16) := (by rw [hw]; exact HP19.2); have hp_ : Kd.R (Kd.int .u32) 47 w20 w.heap.size (fun k_ => some k_ ≠ (.slice (some ad490) t483.length co18 : Value).ownBlock) (.slice (some ⟨go16, 0, none⟩) x5_1.length co17) y492 := (by rw [hw, Ny492.out]; exact HP19.1); clear HP19; replace HO_5 := Yt.mk (hp_); replace HO_6 := Yt.mk (Kd.R_after (v := (.slice (some ⟨go16, 0, none⟩) x5_1.length co17)) (v1 := (.slice (some ⟨go16, 0, none⟩) x5_1.length co17)) (ok := (fun _ => True)) (by (with_reducible repeat (first | apply Kd.Zf | apply Kd.Ze | apply Kd.Zj)); exact Kd.Zv HO_6.out (fun _ hk => ⟨trivial, hk⟩)) hg (.inl rfl)); replace HB := Yt.mk ((by rw [hw]; exact Zd (HB.out) GB16.out : Below w.heap.size w w20)); clear hg hw hp_))
   go_roundg k1
   case measure => have := HK1.out; omega
   case rel => exact ⟨(y492), (0), (wrap64 (x8_1 + 1)), Qa5, Qa5, H', ⟨by have := HK1.out; omega⟩, ⟨Qr1 HO_5.out⟩, ⟨by (with_reducible repeat (first | apply Kd.Zf | apply Kd.Ze | apply Kd.Zj)); exact Kd.Zv HO_6.out (fun _ hk => hk.2)⟩, ⟨Qa0⟩⟩
def r1_Shl.l0 : Nat → List Int → Int → List Int → Int → Int → Option (List Int)
 | 0, _, _, _, _, _ => none
 | k + 1, x0, x1, x5, x6, x7 => if x7 < (x0.length : Int) then (if 0 ≤ x7 then (if 0 ≤ (IntKind.u64.wrap (Int.tmod x1 32)) then (if x5.length < 35184372088832 then (r1_Shl.l0 k x0 x1 (x5 ++ [(Int.tmod (IntKind.u64.wrap ((shl .u64 (IntKind.u64.wrap (rd x0 x7)) (IntKind.u64.wrap (Int.tmod x1 32))) + x6)) 4294967296) % 4294967296]) (IntKind.u64.wrap (Int.tdiv (IntKind.u64.wrap ((shl .u64 (IntKind.u64.wrap (rd x0 x7)) (IntKind.u64.wrap (Int.tmod x1 32))) + x6)) 4294967296)) (wrap64 (x7 + 1))) else (none)) else (none)) else (none)) else (if x5.length < 35184372088832 then ((r1_Trim.f k (x5 ++ [(x6) % 4294967296])).bind fun t505 => (some t505)) else (none))
def r1_Shl.f (k : Nat) (l0 : List Int) (a1 : Int) : Option (List Int) := if 0 ≤ (wrap64 (Int.tdiv a1 32)) then (if (wrap64 (Int.tdiv a1 32) : Int).toNat ≤ 70368744177664 then (r1_Shl.l0 k l0 a1 (List.replicate (wrap64 (Int.tdiv a1 32) : Int).toNat 0) 0 0) else (none)) else (none)
theorem r1_Shl.calls (k : Nat) (A0 : Option Addr) (c0 : Nat) (l0 : List Int) (a1 : Int) (r : List Int) (w : World) (hr0 : Kd.C (Kd.int .u32) w A0 l0.length l0) (hc0 : l0.length ≤ c0) (h : r1_Shl.f k l0 a1 = some r) :
  Calls Try.prog 84 #[.slice A0 l0.length c0, .int .i64 a1] w fun e w' => ∃ v0_ : Value, e = .returned (v0_) ∧ Kd.R (Kd.int .u32) 47 w' w.heap.size (fun _ => True) v0_ r ∧ Below w.heap.size w w' := by
 have HR0 := Yt.mk hr0
 have HC0 := Yt.mk hc0
 clear hr0 hc0
 have HB := Yt.mk (Below.refl w.heap.size w)
 unfold r1_Shl.f at h
 have H := h
 clear h
 obtain ⟨ji3, hji3⟩ : ∃ j_ : Int, (wrap64 (Int.tdiv a1 32)) = j_ := ⟨_, rfl⟩
 replace H : (if 0 ≤ (ji3) then (if (ji3 : Int).toNat ≤ 70368744177664 then (r1_Shl.l0 k l0 a1 (List.replicate (ji3 : Int).toNat 0) 0 0) else (none)) else (none)) = some r := by first | (rw [hji3] at H; exact H) | (simp only [hji3] at H ⊢; exact H)
 have hji3w : (IntKind.i64.wrap (Int.tdiv a1 32)) = ji3 := (Yi _).trans hji3
 by_cases c4 : 0 ≤ (ji3)
 rotate_left
 ·rw [if_neg c4] at H
  exact absurd H (by simp)
 rw [if_pos c4] at H
 have c4b0 := eq_true c4
 have c4b1 : decide (0 ≤ (ji3)) = true := decide_eq_true c4
 clear c4
 by_cases c5 : (ji3 : Int).toNat ≤ 70368744177664
 rotate_left
 ·rw [if_neg c5] at H
  exact absurd H (by simp)
 rw [if_pos c5] at H
 have c5b0 := eq_true c5
 have c5b1 : decide ((ji3 : Int).toNat ≤ 70368744177664) = true := decide_eq_true c5
 clear c5
 obtain ⟨y495, hy495⟩ : ∃ y_ : List Int, y_ = (List.replicate (ji3 : Int).toNat 0) := ⟨_, rfl⟩
 replace H : (r1_Shl.l0 k l0 a1 y495 0 0) = some r := Qh hy495 H
 have Ny495 := Yt.mk hy495
 clear hy495
 have H' := Yt.mk H
 clear H
 go_enter Try.func84, Try.ntmps84
 go_wp2_with (first | ((with_reducible refine Yk (N := 11) rfl ?_); refine Kd.R_make (Kd.int .u32) _ 47 rfl (N := 11) rfl 22 _ _ rfl ji3 rfl rfl Try.underlying22 (.int .u32 0) 4 info47 rfl (by decide) (by omega) 0 (ok := fun _ => True) (okp := fun _ => True) rfl (fun _ hk => hk) trivial (Qd) (Nat.le_trans (Nat.mul_le_mul_right _ (Qd : ji3.toNat ≤ 70368744177664)) (by omega)) (Below.refl _ _) (Nat.le_refl _) ?_; intro v496 w6 ho7 hb hg_ hnew_; clear hg_ hnew_; (first | rw [← Ny495.out] at ho7 | (simp only [Int.reduceToNat] at ho7; rw [← Ny495.out] at ho7)); have HO497 := Yt.mk (Kd.Yb ho7 (Zk (Qa0))); replace HB := Yt.mk (Zm (Qa0) hb); clear hb ho7))
 go_loopg [5, 6, 7] k (fun kq v5 v6 v7 w' => ∃ (x5_1 : List Int) (x6_1 : Int) (x7_1 : Int), v6 = .int .u64 x6_1 ∧ v7 = .int .i64 x7_1 ∧ Yt (r1_Shl.l0 kq l0 a1 x5_1 x6_1 x7_1 = some r) ∧ Yt (kq ≤ k) ∧ Yt (Kd.R (Kd.int .u32) 47 w' w.heap.size (fun _ => True) v5 x5_1) ∧ Yt (Below w.heap.size w w'))
 case atStart => exact ⟨(y495), (0), (0), Qa5, Qa5, H', ⟨Nat.le_refl _⟩, ⟨Qr1 HO497.out⟩, ⟨Qa0⟩⟩
 case round =>
  clear H'
  try clear p2; try clear c4; try clear c4b0; try clear c4b1; try clear c5; try clear c5b0; try clear c5b1; try clear p6
  obtain ⟨x5_1, x6_1, x7_1, rfl, rfl, HA, HK1, HO_5, HB⟩ := hrel
  cases gk with
  | zero => exact absurd HA.out (by simp [r1_Shl.l0])
  | succ k1 =>
   have H := HA.out
   clear HA
   simp only [r1_Shl.l0] at H
   by_cases c8 : x7_1 < (l0.length : Int)
   rotate_left
   ·rw [if_neg c8] at H
    have c8b0 : decide (x7_1 < (l0.length : Int)) = false := decide_eq_false c8
    clear c8
    by_cases c14 : x5_1.length < 35184372088832
    rotate_left
    ·rw [if_neg c14] at H
     exact absurd H (by simp)
    rw [if_pos c14] at H
    have LMc14 := Yt.mk c14
    clear c14
    obtain ⟨y502, hy502⟩ : ∃ y_ : List Int, y_ = (x5_1 ++ [(x6_1) % 4294967296]) := ⟨_, rfl⟩
    replace H : ((r1_Trim.f k1 y502).bind fun t505 => (some t505)) = some r := Qh hy502 H
    have Ny502 := Yt.mk hy502
    clear hy502
    replace H := Option.bind_eq_some_iff.mp H
    obtain ⟨t505, A150, H⟩ := H
    replace H : (some t505) = some r := H
    have A15 := Yt.mk A150
    clear A150
    obtain rfl := Option.some.inj H
    go_wp2_with (first | ((with_reducible refine gate_builtin (b := .append) (xs := #[.tmp 37, .tmp 40]) rfl ?_); at_builtin; refine Kd.R_append (Kd.int .u32) (w0 := w) w.heap.size rfl (.tmp 37) (.tmp 40) 22 47 (.int .u32 0) 4 rfl Try.underlying22 info47 rfl (by decide) (by omega) u5 x5_1 ((x6_1) % 4294967296) [.int .u32 ((x6_1) % 4294967296)] (fun _ => True) (fun _ => False) rfl rfl ?aP (fun _ hk => hk.elim) ?aF ?aO ?aB ?aS ?aL ?_; (case aP => exact rfl); (case aB => exact (Qa0)); (case aF => exact (fun _ _ => trivial)); (case aO => exact (Qr1 HO_5.out)); (case aS => exact (Zk (Qa0))); (case aL => have := LMc14.out; omega); intro v503 w16 ho hb hg hat; rw [← Ny502.out] at ho; replace HB := Yt.mk (hb); have HO504 := Yt.mk (ho); clear HO_5; clear ho hb hg hat; obtain ⟨Ao17, co17, eo17⟩ := Kd.Zx HO504.out; subst eo17) | ((with_reducible refine Zr (f := 46) rfl ?_); refine Yg (some 43) rfl rfl Try.func46 Qa8 rfl #[.slice Ao17 y502.length co17] rfl Qa2 ?_; (with_reducible refine (r1_Trim.calls k1 _ _ y502 t505 _ ?side1 ?side2 A15.out).mono ?_); (case side1 => exact Qe11 (Kd.Zs HO504.out).2.2); (case side2 => exact (Kd.Zs HO504.out).2.1); rintro e w18 ⟨v506, rfl, ho0, hb⟩; refine ⟨_, rfl, ?_⟩; have HO507 := Yt.mk (Kd.Yb (Kd.Ya ho0 (Kd.R_lt (Qr1 HO504.out))) (Zk (Qa0))); replace HO504 := Yt.mk (Kd.Yf (Qr1 HO504.out) (Kd.Zw ho0) hb); replace HB := Yt.mk (Zm (Qa0) hb); (try clear hb); (try clear ho0)))
    go_ret
    exact ⟨_, by first | rfl | (simp [Zp, Zo] <;> rfl) | (simp only [← hji3]; first | rfl | (simp [Zp, Zo] <;> rfl)) | (simp [*, Zp, Zo] <;> rfl), by (with_reducible repeat (first | apply Kd.Zf | apply Kd.Ze | apply Kd.Zj)); exact Kd.Zv HO507.out (fun _ hk => trivial), Qa0⟩
   rw [if_pos c8] at H
   have c8b0 : decide (x7_1 < (l0.length : Int)) = true := decide_eq_true c8
   clear c8
   by_cases c9 : 0 ≤ x7_1
   rotate_left
   ·rw [if_neg c9] at H
    exact absurd H (by simp)
   rw [if_pos c9] at H
   have c9b0 : decide (0 ≤ x7_1) = true := decide_eq_true c9
   clear c9
   by_cases c10 : 0 ≤ (IntKind.u64.wrap (Int.tmod a1 32))
   rotate_left
   ·rw [if_neg c10] at H
    exact absurd H (by simp)
   rw [if_pos c10] at H
   have c10b0 := eq_true c10
   have c10b1 : decide (0 ≤ (IntKind.u64.wrap (Int.tmod a1 32))) = true := decide_eq_true c10
   clear c10
   obtain ⟨ji11, hji11⟩ : ∃ j_ : Int, (shl .u64 (IntKind.u64.wrap (rd l0 x7_1)) (IntKind.u64.wrap (Int.tmod a1 32))) = j_ := ⟨_, rfl⟩
   replace H : (if x5_1.length < 35184372088832 then (r1_Shl.l0 k1 l0 a1 (x5_1 ++ [(Int.tmod (IntKind.u64.wrap ((ji11) + x6_1)) 4294967296) % 4294967296]) (IntKind.u64.wrap (Int.tdiv (IntKind.u64.wrap ((ji11) + x6_1)) 4294967296)) (wrap64 (x7_1 + 1))) else (none)) = some r := by first | (rw [hji11] at H; exact H) | (simp only [hji11] at H ⊢; exact H)
   have hji11_ : (IntKind.u64.wrap ((IntKind.u64.wrap (rd l0 x7_1)) * 2 ^ min (IntKind.u64.wrap (Int.tmod a1 32)).toNat 64)) = ji11 := hji11
   have hji11z : (IntKind.u64.wrap (Int.tmod a1 32)) ≤ 64 → (IntKind.u64.wrap ((IntKind.u64.wrap (rd l0 x7_1)) * 2 ^ (IntKind.u64.wrap (Int.tmod a1 32)).toNat)) = ji11 := shl_small hji11
   by_cases c12 : x5_1.length < 35184372088832
   rotate_left
   ·rw [if_neg c12] at H
    exact absurd H (by simp)
   rw [if_pos c12] at H
   have LMc12 := Yt.mk c12
   clear c12
   obtain ⟨y499, hy499⟩ : ∃ y_ : List Int, y_ = (x5_1 ++ [(Int.tmod (IntKind.u64.wrap ((ji11) + x6_1)) 4294967296) % 4294967296]) := ⟨_, rfl⟩
   replace H : (r1_Shl.l0 k1 l0 a1 y499 (IntKind.u64.wrap (Int.tdiv (IntKind.u64.wrap ((ji11) + x6_1)) 4294967296)) (wrap64 (x7_1 + 1))) = some r := Qh hy499 H
   have Ny499 := Yt.mk hy499
   clear hy499
   have H' := Yt.mk H
   clear H
   have p498 : 0 ≤ (x7_1 : Int) := Qd
   have q498 : x7_1 < (l0.length : Int) := Qd
   obtain ⟨ad498, e498, hx498_0⟩ := Kd.at_int HR0.out x7_1 p498 q498
   cases e498
   replace hx498_0 := (HB.out.cell (World.block_lt_of_cell? w _ hx498_0)).trans hx498_0
   replace p498 := eq_true p498
   replace q498 := eq_true q498
   go_wp2_with (first | ((with_reducible refine gate_builtin (b := .append) (xs := #[.tmp 29, .tmp 33]) rfl ?_); at_builtin; refine Kd.R_append (Kd.int .u32) (w0 := w) w.heap.size rfl (.tmp 29) (.tmp 33) 22 47 (.int .u32 0) 4 rfl Try.underlying22 info47 rfl (by decide) (by omega) u5 x5_1 ((Int.tmod (IntKind.u64.wrap ((ji11) + x6_1)) 4294967296) % 4294967296) [.int .u32 ((Int.tmod (IntKind.u64.wrap ((ji11) + x6_1)) 4294967296) % 4294967296)] (fun _ => True) (fun _ => False) rfl rfl ?aP (fun _ hk => hk.elim) ?aF ?aO ?aB ?aS ?aL ?_; (case aP => exact rfl); (case aB => exact (Qa0)); (case aF => exact (fun _ _ => trivial)); (case aO => exact (Qr1 HO_5.out)); (case aS => exact (Zk (Qa0))); (case aL => have := LMc12.out; omega); intro v500 w13 ho hb hg hat; rw [← Ny499.out] at ho; replace HB := Yt.mk (hb); have HO501 := Yt.mk (ho); clear HO_5; clear ho hb hg hat))
   go_roundg k1
   case measure => have := HK1.out; omega
   case rel => exact ⟨(y499), (IntKind.u64.wrap (Int.tdiv (IntKind.u64.wrap ((ji11) + x6_1)) 4294967296)), (wrap64 (x7_1 + 1)), (by first | rfl | (simp; done) | (simp only [← hji11] <;> (first | rfl | simp)) | (simp [*]; done)), Qa5, H', ⟨by have := HK1.out; omega⟩, ⟨Qr1 HO501.out⟩, ⟨Qa0⟩⟩
def r1_Bit.f (l0 : List Int) (a1 : Int) : Option (Bool) := if a1 < 0 then (some false) else (if (wrap64 (Int.tdiv a1 32)) ≥ (l0.length : Int) then (some false) else (if 0 ≤ (wrap64 (Int.tdiv a1 32)) then (if (wrap64 (Int.tdiv a1 32)) < (l0.length : Int) then (if 0 ≤ (IntKind.u64.wrap (Int.tmod a1 32)) then (some ((Int.tmod (shr .u32 (rd l0 (wrap64 (Int.tdiv a1 32))) (IntKind.u64.wrap (Int.tmod a1 32))) 2) == 1)) else (none)) else (none)) else (none)))
theorem r1_Bit.calls (A0 : Option Addr) (c0 : Nat) (l0 : List Int) (a1 : Int) (r : Bool) (w : World) (hr0 : Kd.C (Kd.int .u32) w A0 l0.length l0) (hc0 : l0.length ≤ c0) (h : r1_Bit.f l0 a1 = some r) :
  Calls Try.prog 85 #[.slice A0 l0.length c0, .int .i64 a1] w fun e w' => e = .returned (.bool r) ∧ Drawn0 w w' := by
 have HR0 := Yt.mk hr0
 have HC0 := Yt.mk hc0
 clear hr0 hc0
 unfold r1_Bit.f at h
 have H := h
 clear h
 by_cases c3 : a1 < 0
 ·rw [if_pos c3] at H
  have c3b0 : decide (a1 < 0) = true := decide_eq_true c3
  clear c3
  obtain rfl := Option.some.inj H
  go_enter Try.func85, Try.ntmps85
  go_wp2
  go_ret
  exact ⟨by first | rfl | (simp; done) | (simp [*]; done), Qa10⟩
 rw [if_neg c3] at H
 have c3b0 : decide (a1 < 0) = false := decide_eq_false c3
 clear c3
 by_cases c4 : (wrap64 (Int.tdiv a1 32)) ≥ (l0.length : Int)
 ·rw [if_pos c4] at H
  have c4b0 : decide ((l0.length : Int) ≤ (wrap64 (Int.tdiv a1 32))) = true := decide_eq_true c4
  clear c4
  obtain rfl := Option.some.inj H
  go_enter Try.func85, Try.ntmps85
  go_wp2
  go_ret
  exact ⟨by first | rfl | (simp; done) | (simp [*]; done), Qa10⟩
 rw [if_neg c4] at H
 have c4b0 : decide ((l0.length : Int) ≤ (wrap64 (Int.tdiv a1 32))) = false := decide_eq_false c4
 clear c4
 obtain ⟨ji5, hji5⟩ : ∃ j_ : Int, (wrap64 (Int.tdiv a1 32)) = j_ := ⟨_, rfl⟩
 replace H : (if 0 ≤ (ji5) then (if (ji5) < (l0.length : Int) then (if 0 ≤ (IntKind.u64.wrap (Int.tmod a1 32)) then (some ((Int.tmod (shr .u32 (rd l0 (ji5)) (IntKind.u64.wrap (Int.tmod a1 32))) 2) == 1)) else (none)) else (none)) else (none)) = some r := by first | (rw [hji5] at H; exact H) | (simp only [hji5] at H ⊢; exact H)
 (try rw [hji5] at c4b0)
 have hji5w : (IntKind.i64.wrap (Int.tdiv a1 32)) = ji5 := (Yi _).trans hji5
 by_cases c6 : 0 ≤ (ji5)
 rotate_left
 ·rw [if_neg c6] at H
  exact absurd H (by simp)
 rw [if_pos c6] at H
 have c6b0 : decide (0 ≤ (ji5)) = true := decide_eq_true c6
 clear c6
 by_cases c7 : (ji5) < (l0.length : Int)
 rotate_left
 ·rw [if_neg c7] at H
  exact absurd H (by simp)
 rw [if_pos c7] at H
 have c7b0 : decide ((ji5) < (l0.length : Int)) = true := decide_eq_true c7
 clear c7
 by_cases c8 : 0 ≤ (IntKind.u64.wrap (Int.tmod a1 32))
 rotate_left
 ·rw [if_neg c8] at H
  exact absurd H (by simp)
 rw [if_pos c8] at H
 have c8b0 := eq_true c8
 have c8b1 : decide (0 ≤ (IntKind.u64.wrap (Int.tmod a1 32))) = true := decide_eq_true c8
 clear c8
 obtain ⟨ji9, hji9⟩ : ∃ j_ : Int, (shr .u32 (rd l0 (ji5)) (IntKind.u64.wrap (Int.tmod a1 32))) = j_ := ⟨_, rfl⟩
 replace H : (some ((Int.tmod (ji9) 2) == 1)) = some r := by first | (rw [hji9] at H; exact H) | (simp only [hji9] at H ⊢; exact H)
 have hji9_ : ((rd l0 (ji5)) / 2 ^ min (IntKind.u64.wrap (Int.tmod a1 32)).toNat 32) = ji9 := hji9
 have hji9z : (IntKind.u64.wrap (Int.tmod a1 32)) ≤ 32 → ((rd l0 (ji5)) / 2 ^ (IntKind.u64.wrap (Int.tmod a1 32)).toNat) = ji9 := shr_small hji9
 obtain rfl := Option.some.inj H
 have p508 : 0 ≤ ((ji5) : Int) := Qd
 have q508 : (ji5) < (l0.length : Int) := Qd
 obtain ⟨ad508, e508, hx508_0⟩ := Kd.at_int HR0.out (ji5) p508 q508
 cases e508
 replace p508 := eq_true p508
 replace q508 := eq_true q508
 go_enter Try.func85, Try.ntmps85
 go_wp2
 go_ret
 exact ⟨by first | rfl | (simp; done) | (simp only [← hji5, ← hji9] <;> (first | rfl | simp)) | (simp [*]; done), Qa10⟩
mutual
def r1_Divide.l0 : Nat → List Int → List Int → List Int → List Int → Int → Option (List Int × List Int)
 | 0, _, _, _, _, _ => none
 | k + 1, x0, x1, x7, x8, x9 => if x9 ≥ 0 then ((r1_Shl.f k x8 1).bind fun t516 => ((r1_Bit.f x0 x9).bind fun t519 => (if t519 = true then ((r1_Plus.f k t516 (([1] : List Int))).bind fun t523 => (r1_Divide.j1 k x0 x1 x7 t523 x9)) else (r1_Divide.j1 k x0 x1 x7 t516 x9)))) else ((r1_Trim.f k x7).bind fun t513 => (some (t513, x8)))
def r1_Divide.j1 : Nat → List Int → List Int → List Int → List Int → Int → Option (List Int × List Int)
 | 0, _, _, _, _, _ => none
 | k + 1, x0, x1, x7, x8, x9 => (r1_Cmp.f k x8 x1).bind fun t526 => (if t526 ≥ 0 then ((r1_Minus.f k x8 x1).bind fun t527 => (if 0 ≤ (wrap64 (Int.tdiv x9 32)) then (if (wrap64 (Int.tdiv x9 32)) < (x7.length : Int) then (if 0 ≤ (IntKind.u64.wrap (Int.tmod x9 32)) then (r1_Divide.l0 k x0 x1 (x7.set ((wrap64 (Int.tdiv x9 32)) : Int).toNat (((rd x7 (wrap64 (Int.tdiv x9 32))) + (shl .u32 1 (IntKind.u64.wrap (Int.tmod x9 32)))) % 4294967296)) t527 (wrap64 (x9 - 1))) else (none)) else (none)) else (none))) else (r1_Divide.l0 k x0 x1 x7 x8 (wrap64 (x9 - 1))))
end
def r1_Divide.f (k : Nat) (l0 : List Int) (l1 : List Int) : Option (List Int × List Int) := (r1_Bits.f k l0).bind fun t509 => (if 0 ≤ (wrap64 ((wrap64 (Int.tdiv t509 32)) + 1)) then (if (wrap64 ((wrap64 (Int.tdiv t509 32)) + 1) : Int).toNat ≤ 70368744177664 then (r1_Divide.l0 k l0 l1 (List.replicate (wrap64 ((wrap64 (Int.tdiv t509 32)) + 1) : Int).toNat 0) ([] : List Int) (wrap64 (t509 - 1))) else (none)) else (none))
theorem r1_Divide.calls (k : Nat) (A0 : Option Addr) (c0 : Nat) (l0 : List Int) (A1 : Option Addr) (c1 : Nat) (l1 : List Int) (r1 : List Int) (r2 : List Int) (w : World) (hr0 : Kd.C (Kd.int .u32) w A0 l0.length l0) (hc0 : l0.length ≤ c0) (hr1 : Kd.C (Kd.int .u32) w A1 l1.length l1) (hc1 : l1.length ≤ c1) (h : r1_Divide.f k l0 l1 = some (r1, r2)) :
  Calls Try.prog 28 #[.slice A0 l0.length c0, .slice A1 l1.length c1] w fun e w' => ∃ v0_ v1_ : Value, e = .returned (.tuple #[v0_, v1_]) ∧ Kd.R (Kd.int .u32) 47 w' w.heap.size (fun k_ => some k_ ≠ (v1_ : Value).ownBlock) v0_ r1 ∧ Kd.R (Kd.int .u32) 47 w' w.heap.size (fun k_ => some k_ ≠ (v0_ : Value).ownBlock) v1_ r2 ∧ Below w.heap.size w w' := by
 have HR0 := Yt.mk hr0
 have HC0 := Yt.mk hc0
 clear hr0 hc0
 have HR1 := Yt.mk hr1
 have HC1 := Yt.mk hc1
 clear hr1 hc1
 have HB := Yt.mk (Below.refl w.heap.size w)
 unfold r1_Divide.f at h
 have H := h
 clear h
 replace H := Option.bind_eq_some_iff.mp H
 obtain ⟨t509, A30, H⟩ := H
 try dsimp only at H
 have A3 := Yt.mk A30
 clear A30
 obtain ⟨ji4, hji4⟩ : ∃ j_ : Int, (wrap64 ((wrap64 (Int.tdiv t509 32)) + 1)) = j_ := ⟨_, rfl⟩
 replace H : (if 0 ≤ (ji4) then (if (ji4 : Int).toNat ≤ 70368744177664 then (r1_Divide.l0 k l0 l1 (List.replicate (ji4 : Int).toNat 0) ([] : List Int) (wrap64 (t509 - 1))) else (none)) else (none)) = some (r1, r2) := by first | (rw [hji4] at H; exact H) | (simp only [hji4] at H ⊢; exact H)
 (try rw [hji4] at A3)
 have hji4w : (IntKind.i64.wrap ((wrap64 (Int.tdiv t509 32)) + 1)) = ji4 := (Yi _).trans hji4
 by_cases c5 : 0 ≤ (ji4)
 rotate_left
 ·rw [if_neg c5] at H
  exact absurd H (by simp)
 rw [if_pos c5] at H
 have c5b0 := eq_true c5
 have c5b1 : decide (0 ≤ (ji4)) = true := decide_eq_true c5
 clear c5
 by_cases c6 : (ji4 : Int).toNat ≤ 70368744177664
 rotate_left
 ·rw [if_neg c6] at H
  exact absurd H (by simp)
 rw [if_pos c6] at H
 have c6b0 := eq_true c6
 have c6b1 : decide ((ji4 : Int).toNat ≤ 70368744177664) = true := decide_eq_true c6
 clear c6
 obtain ⟨y510, hy510⟩ : ∃ y_ : List Int, y_ = (List.replicate (ji4 : Int).toNat 0) := ⟨_, rfl⟩
 replace H : (r1_Divide.l0 k l0 l1 y510 ([] : List Int) (wrap64 (t509 - 1))) = some (r1, r2) := Qh hy510 H
 have Ny510 := Yt.mk hy510
 clear hy510
 have H' := Yt.mk H
 clear H
 go_enter Try.func28, Try.ntmps28
 go_wp2_with (first | ((with_reducible refine Zr (f := 27) rfl ?_); refine Yg (some 11) rfl rfl Try.func27 Qa8 rfl #[.slice A0 l0.length c0] rfl Qa2 ?_; (with_reducible refine (r1_Bits.calls k _ _ l0 t509 _ ?side1 ?side2 A3.out).mono ?_); (case side1 => exact Qe11 HR0.out); (case side2 => exact HC0.out); rintro e w7 ⟨rfl, hb⟩; refine ⟨_, rfl, ?_⟩; replace HB := Yt.mk (Zm (Qa0) hb); (try clear hb)) | ((with_reducible refine Yk (N := 15) rfl ?_); refine Kd.R_make (Kd.int .u32) _ 47 rfl (N := 15) rfl 22 _ _ rfl ji4 rfl rfl Try.underlying22 (.int .u32 0) 4 info47 rfl (by decide) (by omega) 0 (ok := fun _ => True) (okp := fun _ => True) rfl (fun _ hk => hk) trivial (Qd) (Nat.le_trans (Nat.mul_le_mul_right _ (Qd : ji4.toNat ≤ 70368744177664)) (by omega)) (Below.refl _ _) (Nat.le_refl _) ?_; intro v511 w8 ho9 hb hg_ hnew_; clear hg_ hnew_; (first | rw [← Ny510.out] at ho9 | (simp only [Int.reduceToNat] at ho9; rw [← Ny510.out] at ho9)); have HO512 := Yt.mk (Kd.Yb ho9 (Zk (Qa0))); replace HB := Yt.mk (Zm (Qa0) hb); clear hb ho9))
 go_loopg [8, 9] k (fun kq v8 v9 w' => ∃ (x7_1 : List Int) (x8_1 : List Int) (x9_1 : Int), v9 = .int .i64 x9_1 ∧ Yt (r1_Divide.l0 kq l0 l1 x7_1 x8_1 x9_1 = some (r1, r2)) ∧ Yt (kq ≤ k) ∧ Yt (Kd.R (Kd.int .u32) 47 w' w.heap.size (fun k_ => some k_ ≠ (v8 : Value).ownBlock) v511 x7_1) ∧ Yt (Kd.R (Kd.int .u32) 47 w' w.heap.size (fun k_ => some k_ ≠ (v511 : Value).ownBlock) v8 x8_1) ∧ Yt (Below w.heap.size w w'))
 case atStart => exact ⟨(y510), (([] : List Int)), (wrap64 (t509 - 1)), Qa5, H', ⟨Nat.le_refl _⟩, ⟨by (with_reducible repeat (first | apply Kd.Zf | apply Kd.Ze | apply Kd.Zj)); exact Kd.Zv HO512.out (fun _ hk => (by simp [Value.ownBlock]))⟩, ⟨by first | exact Kd.R_nil _ _ _ _ _ | exact Kd.N_nil _ _ _ _ _ | exact Kd.V_nil _ _ _ _ _ | exact Kd.Q_nil _ _ _ _ _ | exact Kd.S_nil _ _ _ _ _⟩, ⟨Qa0⟩⟩
 case round =>
  clear H'
  try clear c1; try clear c2; try clear p2; try clear c5; try clear c5b0; try clear c5b1; try clear c6; try clear c6b0; try clear c6b1; try clear p6
  obtain ⟨x7_1, x8_1, x9_1, rfl, HA, HK1, HO_7, HO_8, HB⟩ := hrel
  cases gk with
  | zero => exact absurd HA.out (by simp [r1_Divide.l0])
  | succ k1 =>
   have H := HA.out
   clear HA
   simp only [r1_Divide.l0] at H
   by_cases c10 : x9_1 ≥ 0
   rotate_left
   ·rw [if_neg c10] at H
    have c10b0 : decide (0 ≤ x9_1) = false := decide_eq_false c10
    clear c10
    replace H := Option.bind_eq_some_iff.mp H
    obtain ⟨t513, A400, H⟩ := H
    replace H : (some (t513, x8_1)) = some (r1, r2) := H
    have A40 := Yt.mk A400
    clear A400
    simp only [Option.some.injEq, Prod.mk.injEq] at H
    obtain ⟨rfl, rfl⟩ := H
    obtain ⟨Ao41, co41, eo41⟩ := Kd.Zx HO_7.out
    subst eo41
    go_wp2_with (first | ((with_reducible refine Zr (f := 46) rfl ?_); refine Yg (some 49) rfl rfl Try.func46 Qa8 rfl #[.slice Ao41 x7_1.length co41] rfl Qa2 ?_; (with_reducible refine (r1_Trim.calls k1 _ _ x7_1 t513 _ ?side1 ?side2 A40.out).mono ?_); (case side1 => exact Qe11 (Kd.Zs HO_7.out).2.2); (case side2 => exact (Kd.Zs HO_7.out).2.1); rintro e w42 ⟨v514, rfl, ho0, hb⟩; refine ⟨_, rfl, ?_⟩; have HO515 := Yt.mk (Kd.Yb (Kd.Ya (Kd.Ya ho0 (Kd.R_lt (Qr1 HO_7.out))) (Kd.R_lt (Qr1 HO_8.out))) (Zk (Qa0))); replace HO_7 := Yt.mk (Kd.Yf (Qr1 HO_7.out) (Kd.Zw ho0) hb); replace HO_8 := Yt.mk (Kd.Yf (Qr1 HO_8.out) (Kd.Zw ho0) hb); replace HB := Yt.mk (Zm (Qa0) hb); (try clear hb); (try clear ho0)))
    go_ret2
    exact ⟨_, _, by first | rfl | (simp [Zp, Zo] <;> rfl) | (simp only [← hji4]; first | rfl | (simp [Zp, Zo] <;> rfl)) | (simp [*, Zp, Zo] <;> rfl), by (with_reducible repeat (first | apply Kd.Zf | apply Kd.Ze | apply Kd.Zj)); exact Kd.Zv HO515.out (fun _ hk => hk.2), by (with_reducible repeat (first | apply Kd.Zf | apply Kd.Ze | apply Kd.Zj)); exact Kd.Zv HO_8.out (fun _ hk => hk.2), Qa0⟩
   rw [if_pos c10] at H
   have c10b0 : decide (0 ≤ x9_1) = true := decide_eq_true c10
   clear c10
   replace H := Option.bind_eq_some_iff.mp H
   obtain ⟨t516, A110, H⟩ := H
   try dsimp only at H
   have A11 := Yt.mk A110
   clear A110
   replace H := Option.bind_eq_some_iff.mp H
   obtain ⟨t519, A120, H⟩ := H
   try dsimp only at H
   have A12 := Yt.mk A120
   clear A120
   have HC13 := Yt.mk H
   clear H
   obtain ⟨Ao14, co14, eo14⟩ := Kd.Zx HO_8.out
   subst eo14
   go_upto_if 26 with (first | ((with_reducible refine Zr (f := 84) rfl ?_); refine Yg (some 23) rfl rfl Try.func84 Qa8 rfl #[.slice Ao14 x8_1.length co14, .int .i64 1] rfl Qa2 ?_; (with_reducible refine (r1_Shl.calls k1 _ _ x8_1 1 t516 _ ?side1 ?side2 A11.out).mono ?_); (case side1 => exact Qe11 (Kd.Zs HO_8.out).2.2); (case side2 => exact (Kd.Zs HO_8.out).2.1); rintro e w15 ⟨v517, rfl, ho0, hb⟩; refine ⟨_, rfl, ?_⟩; have HO518 := Yt.mk (Kd.Yb (Kd.Ya (Kd.Ya ho0 (Kd.R_lt (Qr1 HO_7.out))) (Kd.R_lt (Qr1 HO_8.out))) (Zk (Qa0))); replace HO_7 := Yt.mk (Kd.Yf (Qr1 HO_7.out) (Kd.Zw ho0) hb); replace HO_8 := Yt.mk (Kd.Yf (Qr1 HO_8.out) (Kd.Zw ho0) hb); replace HB := Yt.mk (Zm (Qa0) hb); (try clear hb); (try clear ho0)) | ((with_reducible refine Zr (f := 85) rfl ?_); refine Yg (some 26) rfl rfl Try.func85 Qa8 rfl #[.slice A0 l0.length c0, .int .i64 x9_1] rfl Qa2 ?_; (with_reducible refine (r1_Bit.calls _ _ l0 x9_1 t519 _ ?side1 ?side2 A12.out).mono ?_); (case side1 => exact Qe11 (Kd.Ys HR0.out HB.out)); (case side2 => exact HC0.out); rintro e w' ⟨rfl, ⟨nd, rfl⟩⟩; refine ⟨_, rfl, ?_⟩))
   (try simp only [Act.put, List.setIfInBounds_toArray, List.set_cons_zero, List.set_cons_succ])
   go_cut [8] (fun v8 wc => ∃ (kq : Nat) (x8_12 : List Int), Yt (r1_Divide.j1 kq l0 l1 x7_1 x8_12 x9_1 = some (r1, r2)) ∧ Yt (kq ≤ k1) ∧ Yt (Kd.R (Kd.int .u32) 47 wc w.heap.size (fun k_ => some k_ ≠ (v8 : Value).ownBlock) v511 x7_1) ∧ Yt (Kd.R (Kd.int .u32) 47 wc w.heap.size (fun k_ => some k_ ≠ (v511 : Value).ownBlock) v8 x8_12) ∧ Yt (Below w.heap.size w wc))
   case first =>
    have H := HC13.out
    clear HC13
    by_cases c16 : t519 = true
    rotate_left
    ·replace c16 := Bool.eq_false_iff.mpr c16
     subst c16
     rw [if_neg (show ¬ (false = true) by decide)] at H
     have H' := Yt.mk H
     clear H
     go_wp2
     go_meet
     case rel => exact ⟨_, (t516), H', ⟨by have := HK1.out; first | omega | exact Nat.le_refl _⟩, ⟨by (with_reducible repeat (first | apply Kd.Zf | apply Kd.Ze | apply Kd.Zj)); exact Kd.Zv HO_7.out (fun _ hk => hk.2)⟩, ⟨by (with_reducible repeat (first | apply Kd.Zf | apply Kd.Ze | apply Kd.Zj)); exact Kd.Zv HO518.out (fun _ hk => hk.1.2)⟩, ⟨Qa0⟩⟩
    subst c16
    rw [if_pos rfl] at H
    obtain ⟨y520, hy520⟩ : ∃ y_ : List Int, y_ = (([1] : List Int)) := ⟨_, rfl⟩
    replace H : ((r1_Plus.f k1 t516 y520).bind fun t523 => (r1_Divide.j1 k1 l0 l1 x7_1 t523 x9_1)) = some (r1, r2) := Qh hy520 H
    have Ny520 := Yt.mk hy520
    clear hy520
    replace H := Option.bind_eq_some_iff.mp H
    obtain ⟨t523, A170, H⟩ := H
    try dsimp only at H
    have A17 := Yt.mk A170
    clear A170
    have H' := Yt.mk H
    clear H
    go_wp2_with (first | ((with_reducible refine Yk (N := 28) rfl ?_); refine Kd.R_lit (Kd.int .u32) _ 47 ?hg (N := 28) ?hd (xs := ([1] : List Int)) (inner := [.int .u32 1]) (ok := fun _ => True) (okp := fun _ => True) ?hr ?hp (fun _ hk => hk) trivial (Below.refl _ _) (Nat.le_refl _) (by simp) ?_; (case hd => rfl); (case hg => rfl); (case hr => exact Qa9); (case hp => exact (Reps.one (show Kd.M (Kd.int .u32) _ _ _ 1 [.int .u32 1] from rfl) (Reps.none _ _))); intro v521 w18 ho19 hb hg_ hnew_; clear hg_ hnew_; (first | rw [← Ny520.out] at ho19 | (simp only [Int.reduceToNat] at ho19; rw [← Ny520.out] at ho19)); have HO522 := Yt.mk (Kd.Yb (Kd.Ya (Kd.Ya (Kd.Ya ho19 (Kd.R_lt (Qr1 HO_7.out))) (Kd.R_lt (Qr1 HO_8.out))) (Kd.R_lt (Qr1 HO518.out))) (Zk (Qa0))); replace HO_7 := Yt.mk (Kd.Yf (Qr1 HO_7.out) (Kd.Zw ho19) hb); replace HO_8 := Yt.mk (Kd.Yf (Qr1 HO_8.out) (Kd.Zw ho19) hb); replace HO518 := Yt.mk (Kd.Yf (Qr1 HO518.out) (Kd.Zw ho19) hb); replace HB := Yt.mk (Zm (Qa0) hb); clear hb ho19; obtain ⟨Ao20, co20, eo20⟩ := Kd.Zx HO518.out; subst eo20; obtain ⟨Ao21, co21, eo21⟩ := Kd.Zx HO522.out; subst eo21) | ((with_reducible refine Zr (f := 37) rfl ?_); refine Yg (some 29) rfl rfl Try.func37 Qa8 rfl #[.slice Ao20 t516.length co20, .slice Ao21 y520.length co21] rfl Qa2 ?_; (with_reducible refine (r1_Plus.calls k1 _ _ t516 _ _ y520 t523 _ ?side1 ?side2 ?side3 ?side4 A17.out).mono ?_); (case side1 => exact Qe11 (Kd.Zs HO518.out).2.2); (case side2 => exact (Kd.Zs HO518.out).2.1); (case side3 => exact Qe11 (Kd.Zs HO522.out).2.2); (case side4 => exact (Kd.Zs HO522.out).2.1); rintro e w22 ⟨v524, rfl, ho0, hb⟩; refine ⟨_, rfl, ?_⟩; have HO525 := Yt.mk (Kd.Yb (Kd.Ya (Kd.Ya (Kd.Ya (Kd.Ya ho0 (Kd.R_lt (Qr1 HO_7.out))) (Kd.R_lt (Qr1 HO_8.out))) (Kd.R_lt (Qr1 HO518.out))) (Kd.R_lt (Qr1 HO522.out))) (Zk (Qa0))); replace HO_7 := Yt.mk (Kd.Yf (Qr1 HO_7.out) (Kd.Zw ho0) hb); replace HO_8 := Yt.mk (Kd.Yf (Qr1 HO_8.out) (Kd.Zw ho0) hb); replace HO518 := Yt.mk (Kd.Yf (Qr1 HO518.out) (Kd.Zw ho0) hb); replace HO522 := Yt.mk (Kd.Yf (Qr1 HO522.out) (Kd.Zw ho0) hb); replace HB := Yt.mk (Zm (Qa0) hb); (try clear hb); (try clear ho0)))
    go_meet
    case rel => exact ⟨_, (t523), H', ⟨by have := HK1.out; first | omega | exact Nat.le_refl _⟩, ⟨by (with_reducible repeat (first | apply Kd.Zf | apply Kd.Ze | apply Kd.Zj)); exact Kd.Zv HO_7.out (fun _ hk => hk.2)⟩, ⟨by (with_reducible repeat (first | apply Kd.Zf | apply Kd.Ze | apply Kd.Zj)); exact Kd.Zv HO525.out (fun _ hk => hk.1.1.1.2)⟩, ⟨Qa0⟩⟩
   case rest =>
    clear HC13
    try clear c1; try clear c2; try clear p2; try clear c3; try clear c5; try clear c5b0; try clear c5b1; try clear c6; try clear c6b0; try clear c6b1; try clear p6; try clear c8; try clear c10; try clear c10b0; try clear c16; try clear p2; try clear p6
    obtain ⟨kq, x8_12, HA, HJ12, HO_7, HO_8, HB⟩ := hcut
    cases kq with
    | zero => exact absurd HA.out (by simp [r1_Divide.j1])
    | succ kj12 =>
     have H := HA.out
     clear HA
     simp only [r1_Divide.j1] at H
     replace H := Option.bind_eq_some_iff.mp H
     obtain ⟨t526, A230, H⟩ := H
     try dsimp only at H
     have A23 := Yt.mk A230
     clear A230
     by_cases c24 : t526 ≥ 0
     rotate_left
     ·rw [if_neg c24] at H
      have c24b0 : decide (0 ≤ t526) = false := decide_eq_false c24
      clear c24
      have H' := Yt.mk H
      clear H
      obtain ⟨Ao38, co38, eo38⟩ := Kd.Zx HO_8.out
      subst eo38
      go_wp2_with (first | ((with_reducible refine Zr (f := 36) rfl ?_); refine Yg (some 32) rfl rfl Try.func36 Qa8 rfl #[.slice Ao38 x8_12.length co38, .slice A1 l1.length c1] rfl Qa2 ?_; (with_reducible refine (r1_Cmp.calls kj12 _ _ x8_12 _ _ l1 t526 _ ?side1 ?side2 ?side3 ?side4 A23.out).mono ?_); (case side1 => exact Qe11 (Kd.Zs HO_8.out).2.2); (case side2 => exact (Kd.Zs HO_8.out).2.1); (case side3 => exact Qe11 (Kd.Ys HR1.out HB.out)); (case side4 => exact HC1.out); rintro e w39 ⟨rfl, hb⟩; refine ⟨_, rfl, ?_⟩; replace HO_7 := Yt.mk (Kd.Yd (Qr1 HO_7.out) hb); replace HO_8 := Yt.mk (Kd.Yd (Qr1 HO_8.out) hb); replace HB := Yt.mk (Zm (Qa0) hb); (try clear hb)))
      go_roundg kj12
      case measure => have := HK1.out; have := HJ12.out; omega
      case rel => exact ⟨(x7_1), (x8_12), (wrap64 (x9_1 - 1)), Qa5, H', ⟨by have := HK1.out; have := HJ12.out; omega⟩, ⟨Qr1 HO_7.out⟩, ⟨Qr1 HO_8.out⟩, ⟨Qa0⟩⟩
     rw [if_pos c24] at H
     have c24b0 : decide (0 ≤ t526) = true := decide_eq_true c24
     clear c24
     replace H := Option.bind_eq_some_iff.mp H
     obtain ⟨t527, A250, H⟩ := H
     try dsimp only at H
     have A25 := Yt.mk A250
     clear A250
     obtain ⟨ji26, hji26⟩ : ∃ j_ : Int, (wrap64 (Int.tdiv x9_1 32)) = j_ := ⟨_, rfl⟩
     replace H : (if 0 ≤ (ji26) then (if (ji26) < (x7_1.length : Int) then (if 0 ≤ (IntKind.u64.wrap (Int.tmod x9_1 32)) then (r1_Divide.l0 kj12 l0 l1 (x7_1.set ((ji26) : Int).toNat (((rd x7_1 (ji26)) + (shl .u32 1 (IntKind.u64.wrap (Int.tmod x9_1 32)))) % 4294967296)) t527 (wrap64 (x9_1 - 1))) else (none)) else (none)) else (none)) = some (r1, r2) := by first | (rw [hji26] at H; exact H) | (simp only [hji26] at H ⊢; exact H)
     (try rw [hji26] at A23)
     (try rw [hji26] at A25)
     have hji26w : (IntKind.i64.wrap (Int.tdiv x9_1 32)) = ji26 := (Yi _).trans hji26
     by_cases c27 : 0 ≤ (ji26)
     rotate_left
     ·rw [if_neg c27] at H
      exact absurd H (by simp)
     rw [if_pos c27] at H
     have c27b0 : decide (0 ≤ (ji26)) = true := decide_eq_true c27
     clear c27
     by_cases c28 : (ji26) < (x7_1.length : Int)
     rotate_left
     ·rw [if_neg c28] at H
      exact absurd H (by simp)
     rw [if_pos c28] at H
     have c28b0 : decide ((ji26) < (x7_1.length : Int)) = true := decide_eq_true c28
     clear c28
     by_cases c29 : 0 ≤ (IntKind.u64.wrap (Int.tmod x9_1 32))
     rotate_left
     ·rw [if_neg c29] at H
      exact absurd H (by simp)
     rw [if_pos c29] at H
     have c29b0 := eq_true c29
     have c29b1 : decide (0 ≤ (IntKind.u64.wrap (Int.tmod x9_1 32))) = true := decide_eq_true c29
     clear c29
     obtain ⟨ji30, hji30⟩ : ∃ j_ : Int, (shl .u32 1 (IntKind.u64.wrap (Int.tmod x9_1 32))) = j_ := ⟨_, rfl⟩
     replace H : (r1_Divide.l0 kj12 l0 l1 (x7_1.set ((ji26) : Int).toNat (((rd x7_1 (ji26)) + (ji30)) % 4294967296)) t527 (wrap64 (x9_1 - 1))) = some (r1, r2) := by first | (rw [hji30] at H; exact H) | (simp only [hji30] at H ⊢; exact H)
     (try rw [hji30] at A23)
     (try rw [hji30] at A25)
     have hji30_ : (IntKind.u32.wrap (1 * 2 ^ min (IntKind.u64.wrap (Int.tmod x9_1 32)).toNat 32)) = ji30 := hji30
     have hji30z : (IntKind.u64.wrap (Int.tmod x9_1 32)) ≤ 32 → (IntKind.u32.wrap (1 * 2 ^ (IntKind.u64.wrap (Int.tmod x9_1 32)).toNat)) = ji30 := shl_small hji30
     have hji30u : (IntKind.u32.wrap (2 ^ min (IntKind.u64.wrap (Int.tmod x9_1 32)).toNat 32)) = ji30 := by have h_ := hji30_; rw [Int.one_mul] at h_; exact h_
     have hji30v : (IntKind.u64.wrap (Int.tmod x9_1 32)) ≤ 32 → (IntKind.u32.wrap (2 ^ (IntKind.u64.wrap (Int.tmod x9_1 32)).toNat)) = ji30 := fun hle_ => by have h_ := hji30z hle_; rw [Int.one_mul] at h_; exact h_
     obtain ⟨y531, hy531⟩ : ∃ y_ : List Int, y_ = (x7_1.set ((ji26) : Int).toNat (((rd x7_1 (ji26)) + (ji30)) % 4294967296)) := ⟨_, rfl⟩
     replace H : (r1_Divide.l0 kj12 l0 l1 y531 t527 (wrap64 (x9_1 - 1))) = some (r1, r2) := Qh hy531 H
     have Ny531 := Yt.mk hy531
     clear hy531
     have H' := Yt.mk H
     clear H
     obtain ⟨Ao32, co32, eo32⟩ := Kd.Zx HO_8.out
     subst eo32
     go_wp2_with (first | ((with_reducible refine Zr (f := 36) rfl ?_); refine Yg (some 32) rfl rfl Try.func36 Qa8 rfl #[.slice Ao32 x8_12.length co32, .slice A1 l1.length c1] rfl Qa2 ?_; (with_reducible refine (r1_Cmp.calls kj12 _ _ x8_12 _ _ l1 t526 _ ?side1 ?side2 ?side3 ?side4 A23.out).mono ?_); (case side1 => exact Qe11 (Kd.Zs HO_8.out).2.2); (case side2 => exact (Kd.Zs HO_8.out).2.1); (case side3 => exact Qe11 (Kd.Ys HR1.out HB.out)); (case side4 => exact HC1.out); rintro e w33 ⟨rfl, hb⟩; refine ⟨_, rfl, ?_⟩; replace HO_7 := Yt.mk (Kd.Yd (Qr1 HO_7.out) hb); replace HO_8 := Yt.mk (Kd.Yd (Qr1 HO_8.out) hb); replace HB := Yt.mk (Zm (Qa0) hb); (try clear hb)) | ((with_reducible refine Zr (f := 45) rfl ?_); refine Yg (some 36) rfl rfl Try.func45 Qa8 rfl #[.slice Ao32 x8_12.length co32, .slice A1 l1.length c1] rfl Qa2 ?_; (with_reducible refine (r1_Minus.calls kj12 _ _ x8_12 _ _ l1 t527 _ ?side1 ?side2 ?side3 ?side4 A25.out).mono ?_); (case side1 => exact Qe11 (Kd.Zs HO_8.out).2.2); (case side2 => exact (Kd.Zs HO_8.out).2.1); (case side3 => exact Qe11 (Kd.Ys HR1.out HB.out)); (case side4 => exact HC1.out); rintro e w34 ⟨v528, rfl, ho0, hb⟩; refine ⟨_, rfl, ?_⟩; have HO529 := Yt.mk (Kd.Yb (Kd.Ya (Kd.Ya ho0 (Kd.R_lt (Qr1 HO_7.out))) (Kd.R_lt (Qr1 HO_8.out))) (Zk (Qa0))); replace HO_7 := Yt.mk (Kd.Yf (Qr1 HO_7.out) (Kd.Zw ho0) hb); replace HO_8 := Yt.mk (Kd.Yf (Qr1 HO_8.out) (Kd.Zw ho0) hb); replace HB := Yt.mk (Zm (Qa0) hb); (try clear hb); (try clear ho0); obtain ⟨Ao35, co35, eo35⟩ := Kd.Zx HO_7.out; subst eo35; have p530 : 0 ≤ ((ji26) : Int) := Qd; have q530 : (ji26) < (x7_1.length : Int) := Qd; obtain ⟨ad530, e530, hx530_0⟩ := Kd.at_int (Kd.Zs HO_7.out).2.2 (ji26) p530 q530; cases e530; replace p530 := eq_true p530; replace q530 := eq_true q530; have p31 : 0 ≤ ((ji26) : Int) := Qd; have q31 : ((ji26) : Int) < ((x7_1.length : Int) : Int) := Qd; obtain ⟨go31, co31, eo31, gb31, gl31, cl31, HG31⟩ := Kd.R_form HO_7.out (by omega); (first | cases eo31 | (injection eo31 with ea_ en_ ec_; (first | subst ea_ | (injection ea_ with ea_; subst ea_)); subst ec_; clear en_)); have GB31 := Yt.mk gb31; have GG31 := Yt.mk HG31; clear gb31 gl31 HG31; (first | simp only [add_plain] at hx530_0 | skip); obtain ⟨hx31_0, hf31_0⟩ := Kd.R_celln 0 HO_7.out ((ji26) : Int) p31 q31; replace p31 := eq_true p31; replace q31 := eq_true q31; obtain ⟨hy36_, hz36_⟩ := Kd.R_celln 0 HO_7.out ((ji26) : Int) (Qd) (Qd); have HP36 := Kd.R_putg HO_7.out ((ji26) : Int) (((rd x7_1 (ji26)) + (ji30)) % 4294967296)) | ((with_reducible refine gate_store (t := 47) (p := 47) rfl ?_); refine store_event (t := 47) (p := 47) (v := ?vo_w37) (w1 := (w34.setCell ⟨go31, ((ji26) : Int).toNat, none⟩ (.int .u32 (((rd x7_1 (ji26)) + (ji30)) % 4294967296)))) ?hg ?ho ?hn ?hr ?_; (case ho => rfl); (case hg => rfl); (case hn => rfl); (case hr => exact Qa9); intro w37 hw; have hg : w34.grownBy w37 (some go31) := (by rw [hw]; exact HP36.2); have hp_ : Kd.R (Kd.int .u32) 47 w37 w.heap.size (fun k_ => some k_ ≠ (.slice Ao32 x8_12.length co32 : Value).ownBlock ∧ some k_ ≠ (v528 : Value).ownBlock) (.slice (some ⟨go31, 0, none⟩) x7_1.length co35) y531 := (by rw [hw, Ny531.out]; exact HP36.1); clear HP36; replace HO_7 := Yt.mk (hp_); replace HO_8 := Yt.mk (Kd.R_after (v := (.slice (some ⟨go31, 0, none⟩) x7_1.length co35)) (v1 := (.slice (some ⟨go31, 0, none⟩) x7_1.length co35)) (ok := (fun k_ => some k_ ≠ (v528 : Value).ownBlock)) (by (with_reducible repeat (first | apply Kd.Zf | apply Kd.Ze | apply Kd.Zj)); exact Kd.Zv HO_8.out (fun _ hk => ⟨hk.2, hk.1⟩)) hg (.inl rfl)); replace HO529 := Yt.mk (Kd.R_after (v := (.slice (some ⟨go31, 0, none⟩) x7_1.length co35)) (v1 := (.slice (some ⟨go31, 0, none⟩) x7_1.length co35)) (ok := (fun k_ => some k_ ≠ (.slice Ao32 x8_12.length co32 : Value).ownBlock)) (by (with_reducible repeat (first | apply Kd.Zf | apply Kd.Ze | apply Kd.Zj)); exact Kd.Zv HO529.out (fun _ hk => ⟨hk.2, hk.1.2⟩)) hg (.inl rfl)); replace HB := Yt.mk ((by rw [hw]; exact Zd (HB.out) GB31.out : Below w.heap.size w w37)); clear hg hw hp_))
     go_roundg kj12
     case measure => have := HK1.out; have := HJ12.out; omega
     case rel => exact ⟨(y531), (t527), (wrap64 (x9_1 - 1)), Qa5, H', ⟨by have := HK1.out; have := HJ12.out; omega⟩, ⟨by (with_reducible repeat (first | apply Kd.Zf | apply Kd.Ze | apply Kd.Zj)); exact Kd.Zv HO_7.out (fun _ hk => hk.2)⟩, ⟨by (with_reducible repeat (first | apply Kd.Zf | apply Kd.Ze | apply Kd.Zj)); exact Kd.Zv HO529.out (fun _ hk => hk.2)⟩, ⟨Qa0⟩⟩
def r1_Shr.l0 : Nat → List Int → Int → List Int → Int → Option (List Int)
 | 0, _, _, _, _ => none
 | k + 1, x0, x1, x5, x6 => if x6 < (x0.length : Int) then (if 0 ≤ x6 then (if (wrap64 (x6 + 1)) < (x0.length : Int) then (if 0 ≤ (wrap64 (x6 + 1)) then (if 0 ≤ (IntKind.u64.wrap (Int.tmod x1 32)) then (if x5.length < 35184372088832 then (r1_Shr.l0 k x0 x1 (x5 ++ [(Int.tmod (shr .u64 (IntKind.u64.wrap ((IntKind.u64.wrap (rd x0 x6)) + (IntKind.u64.wrap ((IntKind.u64.wrap (rd x0 (wrap64 (x6 + 1)))) * 4294967296)))) (IntKind.u64.wrap (Int.tmod x1 32))) 4294967296) % 4294967296]) (wrap64 (x6 + 1))) else (none)) else (none)) else (none)) else (if 0 ≤ (IntKind.u64.wrap (Int.tmod x1 32)) then (if x5.length < 35184372088832 then (r1_Shr.l0 k x0 x1 (x5 ++ [(Int.tmod (shr .u64 (IntKind.u64.wrap (rd x0 x6)) (IntKind.u64.wrap (Int.tmod x1 32))) 4294967296) % 4294967296]) (wrap64 (x6 + 1))) else (none)) else (none))) else (none)) else ((r1_Trim.f k x5).bind fun t693 => (some t693))
def r1_Shr.f (k : Nat) (l0 : List Int) (a1 : Int) : Option (List Int) := r1_Shr.l0 k l0 a1 ([] : List Int) (wrap64 (Int.tdiv a1 32))
theorem r1_Shr.calls (k : Nat) (A0 : Option Addr) (c0 : Nat) (l0 : List Int) (a1 : Int) (r : List Int) (w : World) (hr0 : Kd.C (Kd.int .u32) w A0 l0.length l0) (hc0 : l0.length ≤ c0) (h : r1_Shr.f k l0 a1 = some r) :
  Calls Try.prog 92 #[.slice A0 l0.length c0, .int .i64 a1] w fun e w' => ∃ v0_ : Value, e = .returned (v0_) ∧ Kd.R (Kd.int .u32) 47 w' w.heap.size (fun _ => True) v0_ r ∧ Below w.heap.size w w' := by
 have HR0 := Yt.mk hr0
 have HC0 := Yt.mk hc0
 clear hr0 hc0
 have HB := Yt.mk (Below.refl w.heap.size w)
 unfold r1_Shr.f at h
 have H := h
 clear h
 have H' := Yt.mk H
 clear H
 go_enter Try.func92, Try.ntmps92
 go_wp2
 go_loopg [5, 6] k (fun kq v5 v6 w' => ∃ (x5_1 : List Int) (x6_1 : Int), v6 = .int .i64 x6_1 ∧ Yt (r1_Shr.l0 kq l0 a1 x5_1 x6_1 = some r) ∧ Yt (kq ≤ k) ∧ Yt (Kd.R (Kd.int .u32) 47 w' w.heap.size (fun _ => True) v5 x5_1) ∧ Yt (Below w.heap.size w w'))
 case atStart => exact ⟨(([] : List Int)), (wrap64 (Int.tdiv a1 32)), Qa5, H', ⟨Nat.le_refl _⟩, ⟨by first | exact Kd.R_nil _ _ _ _ _ | exact Kd.N_nil _ _ _ _ _ | exact Kd.V_nil _ _ _ _ _ | exact Kd.Q_nil _ _ _ _ _ | exact Kd.S_nil _ _ _ _ _⟩, ⟨Qa0⟩⟩
 case round =>
  clear H'
  try clear p2
  obtain ⟨x5_1, x6_1, rfl, HA, HK1, HO_5, HB⟩ := hrel
  cases gk with
  | zero => exact absurd HA.out (by simp [r1_Shr.l0])
  | succ k1 =>
   have H := HA.out
   clear HA
   simp only [r1_Shr.l0] at H
   by_cases c3 : x6_1 < (l0.length : Int)
   rotate_left
   ·rw [if_neg c3] at H
    have c3b0 : decide (x6_1 < (l0.length : Int)) = false := decide_eq_false c3
    clear c3
    replace H := Option.bind_eq_some_iff.mp H
    obtain ⟨t693, A160, H⟩ := H
    replace H : (some t693) = some r := H
    have A16 := Yt.mk A160
    clear A160
    obtain rfl := Option.some.inj H
    obtain ⟨Ao17, co17, eo17⟩ := Kd.Zx HO_5.out
    subst eo17
    go_wp2_with (first | ((with_reducible refine Zr (f := 46) rfl ?_); refine Yg (some 46) rfl rfl Try.func46 Qa8 rfl #[.slice Ao17 x5_1.length co17] rfl Qa2 ?_; (with_reducible refine (r1_Trim.calls k1 _ _ x5_1 t693 _ ?side1 ?side2 A16.out).mono ?_); (case side1 => exact Qe11 (Kd.Zs HO_5.out).2.2); (case side2 => exact (Kd.Zs HO_5.out).2.1); rintro e w18 ⟨v694, rfl, ho0, hb⟩; refine ⟨_, rfl, ?_⟩; have HO695 := Yt.mk (Kd.Yb (Kd.Ya ho0 (Kd.R_lt (Qr1 HO_5.out))) (Zk (Qa0))); replace HO_5 := Yt.mk (Kd.Yf (Qr1 HO_5.out) (Kd.Zw ho0) hb); replace HB := Yt.mk (Zm (Qa0) hb); (try clear hb); (try clear ho0)))
    go_ret
    exact ⟨_, Qa4, by (with_reducible repeat (first | apply Kd.Zf | apply Kd.Ze | apply Kd.Zj)); exact Kd.Zv HO695.out (fun _ hk => trivial), Qa0⟩
   rw [if_pos c3] at H
   have c3b0 : decide (x6_1 < (l0.length : Int)) = true := decide_eq_true c3
   clear c3
   by_cases c4 : 0 ≤ x6_1
   rotate_left
   ·rw [if_neg c4] at H
    exact absurd H (by simp)
   rw [if_pos c4] at H
   have c4b0 : decide (0 ≤ x6_1) = true := decide_eq_true c4
   clear c4
   by_cases c5 : (wrap64 (x6_1 + 1)) < (l0.length : Int)
   rotate_left
   ·rw [if_neg c5] at H
    have c5b0 : decide ((wrap64 (x6_1 + 1)) < (l0.length : Int)) = false := decide_eq_false c5
    clear c5
    by_cases c12 : 0 ≤ (IntKind.u64.wrap (Int.tmod a1 32))
    rotate_left
    ·rw [if_neg c12] at H
     exact absurd H (by simp)
    rw [if_pos c12] at H
    have c12b0 := eq_true c12
    have c12b1 : decide (0 ≤ (IntKind.u64.wrap (Int.tmod a1 32))) = true := decide_eq_true c12
    clear c12
    obtain ⟨ji13, hji13⟩ : ∃ j_ : Int, (shr .u64 (IntKind.u64.wrap (rd l0 x6_1)) (IntKind.u64.wrap (Int.tmod a1 32))) = j_ := ⟨_, rfl⟩
    replace H : (if x5_1.length < 35184372088832 then (r1_Shr.l0 k1 l0 a1 (x5_1 ++ [(Int.tmod (ji13) 4294967296) % 4294967296]) (wrap64 (x6_1 + 1))) else (none)) = some r := by first | (rw [hji13] at H; exact H) | (simp only [hji13] at H ⊢; exact H)
    have hji13_ : ((IntKind.u64.wrap (rd l0 x6_1)) / 2 ^ min (IntKind.u64.wrap (Int.tmod a1 32)).toNat 64) = ji13 := hji13
    have hji13z : (IntKind.u64.wrap (Int.tmod a1 32)) ≤ 64 → ((IntKind.u64.wrap (rd l0 x6_1)) / 2 ^ (IntKind.u64.wrap (Int.tmod a1 32)).toNat) = ji13 := shr_small hji13
    by_cases c14 : x5_1.length < 35184372088832
    rotate_left
    ·rw [if_neg c14] at H
     exact absurd H (by simp)
    rw [if_pos c14] at H
    have LMc14 := Yt.mk c14
    clear c14
    obtain ⟨y690, hy690⟩ : ∃ y_ : List Int, y_ = (x5_1 ++ [(Int.tmod (ji13) 4294967296) % 4294967296]) := ⟨_, rfl⟩
    replace H : (r1_Shr.l0 k1 l0 a1 y690 (wrap64 (x6_1 + 1))) = some r := Qh hy690 H
    have Ny690 := Yt.mk hy690
    clear hy690
    have H' := Yt.mk H
    clear H
    have p685 : 0 ≤ (x6_1 : Int) := Qd
    have q685 : x6_1 < (l0.length : Int) := Qd
    obtain ⟨ad685, e685, hx685_0⟩ := Kd.at_int HR0.out x6_1 p685 q685
    cases e685
    replace hx685_0 := (HB.out.cell (World.block_lt_of_cell? w _ hx685_0)).trans hx685_0
    replace p685 := eq_true p685
    replace q685 := eq_true q685
    go_wp2_with (first | ((with_reducible refine gate_builtin (b := .append) (xs := #[.tmp 35, .tmp 43]) rfl ?_); at_builtin; refine Kd.R_append (Kd.int .u32) (w0 := w) w.heap.size rfl (.tmp 35) (.tmp 43) 22 47 (.int .u32 0) 4 rfl Try.underlying22 info47 rfl (by decide) (by omega) u5 x5_1 ((Int.tmod (ji13) 4294967296) % 4294967296) [.int .u32 ((Int.tmod (ji13) 4294967296) % 4294967296)] (fun _ => True) (fun _ => False) rfl rfl ?aP (fun _ hk => hk.elim) ?aF ?aO ?aB ?aS ?aL ?_; (case aP => exact rfl); (case aB => exact (Qa0)); (case aF => exact (fun _ _ => trivial)); (case aO => exact (Qr1 HO_5.out)); (case aS => exact (Zk (Qa0))); (case aL => have := LMc14.out; omega); intro v691 w15 ho hb hg hat; rw [← Ny690.out] at ho; replace HB := Yt.mk (hb); have HO692 := Yt.mk (ho); clear HO_5; clear ho hb hg hat))
    go_roundg k1
    case measure => have := HK1.out; omega
    case rel => exact ⟨(y690), (wrap64 (x6_1 + 1)), Qa5, H', ⟨by have := HK1.out; omega⟩, ⟨Qr1 HO692.out⟩, ⟨Qa0⟩⟩
   rw [if_pos c5] at H
   have c5b0 : decide ((wrap64 (x6_1 + 1)) < (l0.length : Int)) = true := decide_eq_true c5
   clear c5
   obtain ⟨ji6, hji6⟩ : ∃ j_ : Int, (wrap64 (x6_1 + 1)) = j_ := ⟨_, rfl⟩
   replace H : (if 0 ≤ (ji6) then (if 0 ≤ (IntKind.u64.wrap (Int.tmod a1 32)) then (if x5_1.length < 35184372088832 then (r1_Shr.l0 k1 l0 a1 (x5_1 ++ [(Int.tmod (shr .u64 (IntKind.u64.wrap ((IntKind.u64.wrap (rd l0 x6_1)) + (IntKind.u64.wrap ((IntKind.u64.wrap (rd l0 (ji6))) * 4294967296)))) (IntKind.u64.wrap (Int.tmod a1 32))) 4294967296) % 4294967296]) ji6) else (none)) else (none)) else (none)) = some r := by first | (rw [hji6] at H; exact H) | (simp only [hji6] at H ⊢; exact H)
   (try rw [hji6] at c5b0)
   have hji6w : (IntKind.i64.wrap (x6_1 + 1)) = ji6 := (Yi _).trans hji6
   by_cases c7 : 0 ≤ (ji6)
   rotate_left
   ·rw [if_neg c7] at H
    exact absurd H (by simp)
   rw [if_pos c7] at H
   have c7b0 : decide (0 ≤ (ji6)) = true := decide_eq_true c7
   clear c7
   by_cases c8 : 0 ≤ (IntKind.u64.wrap (Int.tmod a1 32))
   rotate_left
   ·rw [if_neg c8] at H
    exact absurd H (by simp)
   rw [if_pos c8] at H
   have c8b0 := eq_true c8
   have c8b1 : decide (0 ≤ (IntKind.u64.wrap (Int.tmod a1 32))) = true := decide_eq_true c8
   clear c8
   obtain ⟨ji9, hji9⟩ : ∃ j_ : Int, (shr .u64 (IntKind.u64.wrap ((IntKind.u64.wrap (rd l0 x6_1)) + (IntKind.u64.wrap ((IntKind.u64.wrap (rd l0 (ji6))) * 4294967296)))) (IntKind.u64.wrap (Int.tmod a1 32))) = j_ := ⟨_, rfl⟩
   replace H : (if x5_1.length < 35184372088832 then (r1_Shr.l0 k1 l0 a1 (x5_1 ++ [(Int.tmod (ji9) 4294967296) % 4294967296]) ji6) else (none)) = some r := by first | (rw [hji9] at H; exact H) | (simp only [hji9] at H ⊢; exact H)
   have hji9_ : ((IntKind.u64.wrap ((IntKind.u64.wrap (rd l0 x6_1)) + (IntKind.u64.wrap ((IntKind.u64.wrap (rd l0 (ji6))) * 4294967296)))) / 2 ^ min (IntKind.u64.wrap (Int.tmod a1 32)).toNat 64) = ji9 := hji9
   have hji9z : (IntKind.u64.wrap (Int.tmod a1 32)) ≤ 64 → ((IntKind.u64.wrap ((IntKind.u64.wrap (rd l0 x6_1)) + (IntKind.u64.wrap ((IntKind.u64.wrap (rd l0 (ji6))) * 4294967296)))) / 2 ^ (IntKind.u64.wrap (Int.tmod a1 32)).toNat) = ji9 := shr_small hji9
   by_cases c10 : x5_1.length < 35184372088832
   rotate_left
   ·rw [if_neg c10] at H
    exact absurd H (by simp)
   rw [if_pos c10] at H
   have LMc10 := Yt.mk c10
   clear c10
   obtain ⟨y687, hy687⟩ : ∃ y_ : List Int, y_ = (x5_1 ++ [(Int.tmod (ji9) 4294967296) % 4294967296]) := ⟨_, rfl⟩
   replace H : (r1_Shr.l0 k1 l0 a1 y687 ji6) = some r := Qh hy687 H
   have Ny687 := Yt.mk hy687
   clear hy687
   have H' := Yt.mk H
   clear H
   have p685 : 0 ≤ (x6_1 : Int) := Qd
   have q685 : x6_1 < (l0.length : Int) := Qd
   obtain ⟨ad685, e685, hx685_0⟩ := Kd.at_int HR0.out x6_1 p685 q685
   cases e685
   replace hx685_0 := (HB.out.cell (World.block_lt_of_cell? w _ hx685_0)).trans hx685_0
   replace p685 := eq_true p685
   replace q685 := eq_true q685
   have p686 : 0 ≤ ((ji6) : Int) := Qd
   have q686 : (ji6) < (l0.length : Int) := Qd
   obtain ⟨ad686, e686, hx686_0⟩ := Kd.at_int HR0.out (ji6) p686 q686
   obtain rfl : ad685 = ad686 := (by injection e686)
   replace hx686_0 := (HB.out.cell (World.block_lt_of_cell? w _ hx686_0)).trans hx686_0
   replace p686 := eq_true p686
   replace q686 := eq_true q686
   go_wp2_with (first | ((with_reducible refine gate_builtin (b := .append) (xs := #[.tmp 35, .tmp 43]) rfl ?_); at_builtin; refine Kd.R_append (Kd.int .u32) (w0 := w) w.heap.size rfl (.tmp 35) (.tmp 43) 22 47 (.int .u32 0) 4 rfl Try.underlying22 info47 rfl (by decide) (by omega) u5 x5_1 ((Int.tmod (ji9) 4294967296) % 4294967296) [.int .u32 ((Int.tmod (ji9) 4294967296) % 4294967296)] (fun _ => True) (fun _ => False) rfl rfl ?aP (fun _ hk => hk.elim) ?aF ?aO ?aB ?aS ?aL ?_; (case aP => exact rfl); (case aB => exact (Qa0)); (case aF => exact (fun _ _ => trivial)); (case aO => exact (Qr1 HO_5.out)); (case aS => exact (Zk (Qa0))); (case aL => have := LMc10.out; omega); intro v688 w11 ho hb hg hat; rw [← Ny687.out] at ho; replace HB := Yt.mk (hb); have HO689 := Yt.mk (ho); clear HO_5; clear ho hb hg hat))
   go_roundg k1
   case measure => have := HK1.out; omega
   case rel => exact ⟨(y687), (ji6), (by first | rfl | (simp; done) | (simp only [← hji6] <;> (first | rfl | simp)) | (simp [*]; done)), H', ⟨by have := HK1.out; omega⟩, ⟨Qr1 HO689.out⟩, ⟨Qa0⟩⟩
mutual
def r1_Common.j1 : Nat → List Int → List Int → Int → Option (List Int)
 | 0, _, _, _ => none
 | k + 1, x5, x6, x7 => (r1_Shr.f k x5 x7).bind fun t704 => ((r1_Shr.f k x6 x7).bind fun t707 => (r1_Common.l1 k t704 t707 x7))
def r1_Common.l1 : Nat → List Int → List Int → Int → Option (List Int)
 | 0, _, _, _ => none
 | k + 1, x5, x6, x7 => if (x5.length : Int) > 0 then (r1_Common.j3 k x5 x6 x7 (decide (0 < x6.length))) else (r1_Common.j3 k x5 x6 x7 false)
def r1_Common.j3 : Nat → List Int → List Int → Int → Bool → Option (List Int)
 | 0, _, _, _, _ => none
 | k + 1, x5, x6, x7, x45 => if x45 = true then ((r1_Bit.f x5 0).bind fun t716 => (if t716 = true then ((r1_Bit.f x6 0).bind fun t717 => (if t717 = true then ((r1_Cmp.f k x5 x6).bind fun t718 => (if t718 ≥ 0 then ((r1_Minus.f k x5 x6).bind fun t719 => (r1_Common.l1 k t719 x6 x7)) else ((r1_Minus.f k x6 x5).bind fun t722 => (r1_Common.l1 k x5 t722 x7)))) else ((r1_Shr.f k x6 1).bind fun t725 => (r1_Common.l1 k x5 t725 x7)))) else ((r1_Shr.f k x5 1).bind fun t728 => (r1_Common.l1 k t728 x6 x7)))) else ((r1_Plus.f k x5 x6).bind fun t710 => ((r1_Shl.f k t710 x7).bind fun t713 => (some t713)))
def r1_Common.l0 : Nat → List Int → List Int → Int → Option (List Int)
 | 0, _, _, _ => none
 | k + 1, x5, x6, x7 => (r1_Bit.f x5 x7).bind fun t702 => (if t702 = true then (r1_Common.j1 k x5 x6 x7) else ((r1_Bit.f x6 x7).bind fun t703 => (if t703 = true then (r1_Common.j1 k x5 x6 x7) else (r1_Common.l0 k x5 x6 (wrap64 (x7 + 1))))))
end
def r1_Common.f (k : Nat) (l0 : List Int) (l1 : List Int) : Option (List Int) := (r1_Trim.f k l0).bind fun t696 => ((r1_Trim.f k l1).bind fun t699 => (if (t696.length : Int) = 0 then (some t699) else (if (t699.length : Int) = 0 then (some t696) else (r1_Common.l0 k t696 t699 0))))
theorem r1_Common.calls (k : Nat) (A0 : Option Addr) (c0 : Nat) (l0 : List Int) (A1 : Option Addr) (c1 : Nat) (l1 : List Int) (r : List Int) (w : World) (hr0 : Kd.C (Kd.int .u32) w A0 l0.length l0) (hc0 : l0.length ≤ c0) (hr1 : Kd.C (Kd.int .u32) w A1 l1.length l1) (hc1 : l1.length ≤ c1) (h : r1_Common.f k l0 l1 = some r) :
  Calls Try.prog 41 #[.slice A0 l0.length c0, .slice A1 l1.length c1] w fun e w' => ∃ v0_ : Value, e = .returned (v0_) ∧ Kd.R (Kd.int .u32) 47 w' w.heap.size (fun _ => True) v0_ r ∧ Below w.heap.size w w' := by
 have HR0 := Yt.mk hr0
 have HC0 := Yt.mk hc0
 clear hr0 hc0
 have HR1 := Yt.mk hr1
 have HC1 := Yt.mk hc1
 clear hr1 hc1
 have HB := Yt.mk (Below.refl w.heap.size w)
 unfold r1_Common.f at h
 have H := h
 clear h
 replace H := Option.bind_eq_some_iff.mp H
 obtain ⟨t696, A30, H⟩ := H
 try dsimp only at H
 have A3 := Yt.mk A30
 clear A30
 replace H := Option.bind_eq_some_iff.mp H
 obtain ⟨t699, A40, H⟩ := H
 try dsimp only at H
 have A4 := Yt.mk A40
 clear A40
 by_cases c5 : (t696.length : Int) = 0
 ·rw [if_pos c5] at H
  have c5b0 : ((t696.length : Int) == 0) = true := beq_iff_eq.mpr c5
  have c5b1 : ((t696.length : Int) != 0) = false := bne_eq_false_iff_eq.mpr c5
  clear c5
  obtain rfl := Option.some.inj H
  go_enter Try.func41, Try.ntmps41
  go_wp2_with (first | ((with_reducible refine Zr (f := 46) rfl ?_); refine Yg (some 9) rfl rfl Try.func46 Qa8 rfl #[.slice A0 l0.length c0] rfl Qa2 ?_; (with_reducible refine (r1_Trim.calls k _ _ l0 t696 _ ?side1 ?side2 A3.out).mono ?_); (case side1 => exact Qe11 HR0.out); (case side2 => exact HC0.out); rintro e w6 ⟨v697, rfl, ho0, hb⟩; refine ⟨_, rfl, ?_⟩; have HO698 := Yt.mk (Kd.Yb ho0 (Zk (Qa0))); replace HB := Yt.mk (Zm (Qa0) hb); (try clear hb); (try clear ho0)) | ((with_reducible refine Zr (f := 46) rfl ?_); refine Yg (some 11) rfl rfl Try.func46 Qa8 rfl #[.slice A1 l1.length c1] rfl Qa2 ?_; (with_reducible refine (r1_Trim.calls k _ _ l1 t699 _ ?side1 ?side2 A4.out).mono ?_); (case side1 => exact Qe11 (Kd.Ys HR1.out HB.out)); (case side2 => exact HC1.out); rintro e w7 ⟨v700, rfl, ho0, hb⟩; refine ⟨_, rfl, ?_⟩; have HO701 := Yt.mk (Kd.Yb (Kd.Ya ho0 (Kd.R_lt (Qr1 HO698.out))) (Zk (Qa0))); replace HO698 := Yt.mk (Kd.Yf (Qr1 HO698.out) (Kd.Zw ho0) hb); replace HB := Yt.mk (Zm (Qa0) hb); (try clear hb); (try clear ho0); obtain ⟨Ao8, co8, eo8⟩ := Kd.Zx HO698.out; subst eo8))
  go_ret
  exact ⟨_, Qa4, by (with_reducible repeat (first | apply Kd.Zf | apply Kd.Ze | apply Kd.Zj)); exact Kd.Zv HO701.out (fun _ hk => trivial), Qa0⟩
 rw [if_neg c5] at H
 have c5b0 : ((t696.length : Int) == 0) = false := beq_eq_false_iff_ne.mpr c5
 have c5b1 : ((t696.length : Int) != 0) = true := bne_iff_ne.mpr c5
 have c5b2 : ¬ (t696 = []) := fun h_ => c5 (by rw [h_]; rfl)
 by_cases c9 : (t699.length : Int) = 0
 ·rw [if_pos c9] at H
  have c9b0 : ((t699.length : Int) == 0) = true := beq_iff_eq.mpr c9
  have c9b1 : ((t699.length : Int) != 0) = false := bne_eq_false_iff_eq.mpr c9
  clear c9
  obtain rfl := Option.some.inj H
  go_enter Try.func41, Try.ntmps41
  go_wp2_with (first | ((with_reducible refine Zr (f := 46) rfl ?_); refine Yg (some 9) rfl rfl Try.func46 Qa8 rfl #[.slice A0 l0.length c0] rfl Qa2 ?_; (with_reducible refine (r1_Trim.calls k _ _ l0 t696 _ ?side1 ?side2 A3.out).mono ?_); (case side1 => exact Qe11 HR0.out); (case side2 => exact HC0.out); rintro e w10 ⟨v697, rfl, ho0, hb⟩; refine ⟨_, rfl, ?_⟩; have HO698 := Yt.mk (Kd.Yb ho0 (Zk (Qa0))); replace HB := Yt.mk (Zm (Qa0) hb); (try clear hb); (try clear ho0)) | ((with_reducible refine Zr (f := 46) rfl ?_); refine Yg (some 11) rfl rfl Try.func46 Qa8 rfl #[.slice A1 l1.length c1] rfl Qa2 ?_; (with_reducible refine (r1_Trim.calls k _ _ l1 t699 _ ?side1 ?side2 A4.out).mono ?_); (case side1 => exact Qe11 (Kd.Ys HR1.out HB.out)); (case side2 => exact HC1.out); rintro e w11 ⟨v700, rfl, ho0, hb⟩; refine ⟨_, rfl, ?_⟩; have HO701 := Yt.mk (Kd.Yb (Kd.Ya ho0 (Kd.R_lt (Qr1 HO698.out))) (Zk (Qa0))); replace HO698 := Yt.mk (Kd.Yf (Qr1 HO698.out) (Kd.Zw ho0) hb); replace HB := Yt.mk (Zm (Qa0) hb); (try clear hb); (try clear ho0); obtain ⟨Ao12, co12, eo12⟩ := Kd.Zx HO698.out; subst eo12; obtain ⟨Ao13, co13, eo13⟩ := Kd.Zx HO701.out; subst eo13))
  go_ret
  exact ⟨_, Qa4, by (with_reducible repeat (first | apply Kd.Zf | apply Kd.Ze | apply Kd.Zj)); exact Kd.Zv HO698.out (fun _ hk => trivial), Qa0⟩
 rw [if_neg c9] at H
 have c9b0 : ((t699.length : Int) == 0) = false := beq_eq_false_iff_ne.mpr c9
 have c9b1 : ((t699.length : Int) != 0) = true := bne_iff_ne.mpr c9
 have c9b2 : ¬ (t699 = []) := fun h_ => c9 (by rw [h_]; rfl)
 have HC14 := Yt.mk H
 clear H
 go_enter Try.func41, Try.ntmps41
 go_upto_block 0 with (first | ((with_reducible refine Zr (f := 46) rfl ?_); refine Yg (some 9) rfl rfl Try.func46 Qa8 rfl #[.slice A0 l0.length c0] rfl Qa2 ?_; (with_reducible refine (r1_Trim.calls k _ _ l0 t696 _ ?side1 ?side2 A3.out).mono ?_); (case side1 => exact Qe11 HR0.out); (case side2 => exact HC0.out); rintro e w15 ⟨v697, rfl, ho0, hb⟩; refine ⟨_, rfl, ?_⟩; have HO698 := Yt.mk (Kd.Yb ho0 (Zk (Qa0))); replace HB := Yt.mk (Zm (Qa0) hb); (try clear hb); (try clear ho0)) | ((with_reducible refine Zr (f := 46) rfl ?_); refine Yg (some 11) rfl rfl Try.func46 Qa8 rfl #[.slice A1 l1.length c1] rfl Qa2 ?_; (with_reducible refine (r1_Trim.calls k _ _ l1 t699 _ ?side1 ?side2 A4.out).mono ?_); (case side1 => exact Qe11 (Kd.Ys HR1.out HB.out)); (case side2 => exact HC1.out); rintro e w16 ⟨v700, rfl, ho0, hb⟩; refine ⟨_, rfl, ?_⟩; have HO701 := Yt.mk (Kd.Yb (Kd.Ya ho0 (Kd.R_lt (Qr1 HO698.out))) (Zk (Qa0))); replace HO698 := Yt.mk (Kd.Yf (Qr1 HO698.out) (Kd.Zw ho0) hb); replace HB := Yt.mk (Zm (Qa0) hb); (try clear hb); (try clear ho0); obtain ⟨Ao17, co17, eo17⟩ := Kd.Zx HO698.out; subst eo17; obtain ⟨Ao18, co18, eo18⟩ := Kd.Zx HO701.out; subst eo18))
 (try simp only [Act.put, List.setIfInBounds_toArray, List.set_cons_zero, List.set_cons_succ])
 go_cut [7] (fun v7 wc => ∃ (kq : Nat) (x7_13 : Int), v7 = .int .i64 x7_13 ∧ Yt (r1_Common.j1 kq t696 t699 x7_13 = some r) ∧ Yt (kq ≤ k) ∧ Yt (Kd.R (Kd.int .u32) 47 wc w.heap.size (fun k_ => some k_ ≠ ((.slice Ao18 t699.length co18) : Value).ownBlock) (.slice Ao17 t696.length co17) t696) ∧ Yt (Kd.R (Kd.int .u32) 47 wc w.heap.size (fun k_ => some k_ ≠ ((.slice Ao17 t696.length co17) : Value).ownBlock) (.slice Ao18 t699.length co18) t699) ∧ Yt (Below w.heap.size w wc))
 case first =>
  have H := HC14.out
  clear HC14
  have H' := Yt.mk H
  clear H
  go_wp2
  go_loopg [7] k (fun kq v7 w' => ∃ (x7_1 : Int), v7 = .int .i64 x7_1 ∧ Yt (r1_Common.l0 kq t696 t699 x7_1 = some r) ∧ Yt (kq ≤ k) ∧ Yt (Kd.R (Kd.int .u32) 47 w' w.heap.size (fun k_ => some k_ ≠ ((.slice Ao18 t699.length co18) : Value).ownBlock) (.slice Ao17 t696.length co17) t696) ∧ Yt (Kd.R (Kd.int .u32) 47 w' w.heap.size (fun k_ => some k_ ≠ ((.slice Ao17 t696.length co17) : Value).ownBlock) (.slice Ao18 t699.length co18) t699) ∧ Yt (Below w.heap.size w w'))
  case atStart => exact ⟨(0), Qa5, H', ⟨Nat.le_refl _⟩, ⟨by (with_reducible repeat (first | apply Kd.Zf | apply Kd.Ze | apply Kd.Zj)); exact Kd.Zv HO698.out (fun _ hk => hk.2)⟩, ⟨by (with_reducible repeat (first | apply Kd.Zf | apply Kd.Ze | apply Kd.Zj)); exact Kd.Zv HO701.out (fun _ hk => hk.2)⟩, ⟨Qa0⟩⟩
  case round =>
   clear H'
   try clear c1; try clear p2; try clear c4; try clear c5; try clear c5b0; try clear c5b1; try clear c5b2; try clear c9; try clear c9b0; try clear c9b1; try clear c9b2
   obtain ⟨x7_1, rfl, HA, HK1, HO_5, HO_6, HB⟩ := hrel
   cases gk with
   | zero => exact absurd HA.out (by simp [r1_Common.l0])
   | succ k1 =>
    have H := HA.out
    clear HA
    simp only [r1_Common.l0] at H
    replace H := Option.bind_eq_some_iff.mp H
    obtain ⟨t702, A190, H⟩ := H
    try dsimp only at H
    have A19 := Yt.mk A190
    clear A190
    by_cases c20 : t702 = true
    ·subst c20
     rw [if_pos rfl] at H
     have H' := Yt.mk H
     clear H
     go_wp2_with (first | ((with_reducible refine Zr (f := 85) rfl ?_); refine Yg (some 22) rfl rfl Try.func85 Qa8 rfl #[.slice Ao17 t696.length co17, .int .i64 x7_1] rfl Qa2 ?_; (with_reducible refine (r1_Bit.calls _ _ t696 x7_1 true _ ?side1 ?side2 A19.out).mono ?_); (case side1 => exact Qe11 (Kd.Zs HO_5.out).2.2); (case side2 => exact (Kd.Zs HO_5.out).2.1); rintro e w' ⟨rfl, ⟨nd, rfl⟩⟩; refine ⟨_, rfl, ?_⟩))
     go_meet
     case rel => exact ⟨_, (x7_1), Qa5, H', ⟨by have := HK1.out; first | omega | exact Nat.le_refl _⟩, ⟨Qr1 HO_5.out⟩, ⟨Qr1 HO_6.out⟩, ⟨Qa0⟩⟩
    replace c20 := Bool.eq_false_iff.mpr c20
    subst c20
    rw [if_neg (show ¬ (false = true) by decide)] at H
    replace H := Option.bind_eq_some_iff.mp H
    obtain ⟨t703, A210, H⟩ := H
    try dsimp only at H
    have A21 := Yt.mk A210
    clear A210
    by_cases c22 : t703 = true
    ·subst c22
     rw [if_pos rfl] at H
     have H' := Yt.mk H
     clear H
     go_wp2_with (first | ((with_reducible refine Zr (f := 85) rfl ?_); refine Yg (some 22) rfl rfl Try.func85 Qa8 rfl #[.slice Ao17 t696.length co17, .int .i64 x7_1] rfl Qa2 ?_; (with_reducible refine (r1_Bit.calls _ _ t696 x7_1 false _ ?side1 ?side2 A19.out).mono ?_); (case side1 => exact Qe11 (Kd.Zs HO_5.out).2.2); (case side2 => exact (Kd.Zs HO_5.out).2.1); rintro e w' ⟨rfl, ⟨nd, rfl⟩⟩; refine ⟨_, rfl, ?_⟩) | (go_at_call 85; (with_reducible refine (r1_Bit.calls _ _ t699 x7_1 true _ ?side1 ?side2 A21.out).mono ?_); (case side1 => exact Qe11 (Kd.Zs HO_6.out).2.2); (case side2 => exact (Kd.Zs HO_6.out).2.1); rintro e w' ⟨rfl, ⟨nd, rfl⟩⟩))
     go_meet
     case rel => exact ⟨_, (x7_1), Qa5, H', ⟨by have := HK1.out; first | omega | exact Nat.le_refl _⟩, ⟨Qr1 HO_5.out⟩, ⟨Qr1 HO_6.out⟩, ⟨Qa0⟩⟩
    replace c22 := Bool.eq_false_iff.mpr c22
    subst c22
    rw [if_neg (show ¬ (false = true) by decide)] at H
    have H' := Yt.mk H
    clear H
    go_wp2_with (first | ((with_reducible refine Zr (f := 85) rfl ?_); refine Yg (some 22) rfl rfl Try.func85 Qa8 rfl #[.slice Ao17 t696.length co17, .int .i64 x7_1] rfl Qa2 ?_; (with_reducible refine (r1_Bit.calls _ _ t696 x7_1 false _ ?side1 ?side2 A19.out).mono ?_); (case side1 => exact Qe11 (Kd.Zs HO_5.out).2.2); (case side2 => exact (Kd.Zs HO_5.out).2.1); rintro e w' ⟨rfl, ⟨nd, rfl⟩⟩; refine ⟨_, rfl, ?_⟩) | (go_at_call 85; (with_reducible refine (r1_Bit.calls _ _ t699 x7_1 false _ ?side1 ?side2 A21.out).mono ?_); (case side1 => exact Qe11 (Kd.Zs HO_6.out).2.2); (case side2 => exact (Kd.Zs HO_6.out).2.1); rintro e w' ⟨rfl, ⟨nd, rfl⟩⟩))
    go_roundg k1
    case measure => have := HK1.out; omega
    case rel => exact ⟨(wrap64 (x7_1 + 1)), Qa5, H', ⟨by have := HK1.out; omega⟩, ⟨Qr1 HO_5.out⟩, ⟨Qr1 HO_6.out⟩, ⟨Qa0⟩⟩
 case rest =>
  clear HC14
  try clear c1; try clear c2; try clear p2; try clear c4; try clear c5; try clear c5b0; try clear c5b1; try clear c5b2; try clear p6; try clear c8; try clear c9; try clear c9b0; try clear c9b1; try clear c9b2; try clear c20; try clear c22; try clear p2
  obtain ⟨kq, x7_13, rfl, HA, HJ13, HO_5, HO_6, HB⟩ := hcut
  cases kq with
  | zero => exact absurd HA.out (by simp [r1_Common.j1])
  | succ kj13 =>
   have H := HA.out
   clear HA
   simp only [r1_Common.j1] at H
   replace H := Option.bind_eq_some_iff.mp H
   obtain ⟨t704, A230, H⟩ := H
   try dsimp only at H
   have A23 := Yt.mk A230
   clear A230
   replace H := Option.bind_eq_some_iff.mp H
   obtain ⟨t707, A240, H⟩ := H
   replace H : (r1_Common.l1 kj13 t704 t707 x7_13) = some r := H
   have A24 := Yt.mk A240
   clear A240
   have H' := Yt.mk H
   clear H
   go_wp2_with (first | ((with_reducible refine Zr (f := 92) rfl ?_); refine Yg (some 34) rfl rfl Try.func92 Qa8 rfl #[.slice Ao17 t696.length co17, .int .i64 x7_13] rfl Qa2 ?_; (with_reducible refine (r1_Shr.calls kj13 _ _ t696 x7_13 t704 _ ?side1 ?side2 A23.out).mono ?_); (case side1 => exact Qe11 (Kd.Zs HO_5.out).2.2); (case side2 => exact (Kd.Zs HO_5.out).2.1); rintro e w25 ⟨v705, rfl, ho0, hb⟩; refine ⟨_, rfl, ?_⟩; have HO706 := Yt.mk (Kd.Yb (Kd.Ya (Kd.Ya ho0 (Kd.R_lt (Qr1 HO_5.out))) (Kd.R_lt (Qr1 HO_6.out))) (Zk (Qa0))); replace HO_5 := Yt.mk (Kd.Yf (Qr1 HO_5.out) (Kd.Zw ho0) hb); replace HO_6 := Yt.mk (Kd.Yf (Qr1 HO_6.out) (Kd.Zw ho0) hb); replace HB := Yt.mk (Zm (Qa0) hb); (try clear hb); (try clear ho0)) | ((with_reducible refine Zr (f := 92) rfl ?_); refine Yg (some 37) rfl rfl Try.func92 Qa8 rfl #[.slice Ao18 t699.length co18, .int .i64 x7_13] rfl Qa2 ?_; (with_reducible refine (r1_Shr.calls kj13 _ _ t699 x7_13 t707 _ ?side1 ?side2 A24.out).mono ?_); (case side1 => exact Qe11 (Kd.Zs HO_6.out).2.2); (case side2 => exact (Kd.Zs HO_6.out).2.1); rintro e w26 ⟨v708, rfl, ho0, hb⟩; refine ⟨_, rfl, ?_⟩; have HO709 := Yt.mk (Kd.Yb (Kd.Ya (Kd.Ya (Kd.Ya ho0 (Kd.R_lt (Qr1 HO_5.out))) (Kd.R_lt (Qr1 HO_6.out))) (Kd.R_lt (Qr1 HO706.out))) (Zk (Qa0))); replace HO_5 := Yt.mk (Kd.Yf (Qr1 HO_5.out) (Kd.Zw ho0) hb); replace HO_6 := Yt.mk (Kd.Yf (Qr1 HO_6.out) (Kd.Zw ho0) hb); replace HO706 := Yt.mk (Kd.Yf (Qr1 HO706.out) (Kd.Zw ho0) hb); replace HB := Yt.mk (Zm (Qa0) hb); (try clear hb); (try clear ho0)))
   go_loopg [5, 6] kj13 (fun kq v5 v6 w' => ∃ (x5_2 : List Int) (x6_2 : List Int), Yt (r1_Common.l1 kq x5_2 x6_2 x7_13 = some r) ∧ Yt (kq ≤ kj13) ∧ Yt (Kd.R (Kd.int .u32) 47 w' w.heap.size (fun k_ => some k_ ≠ (v6 : Value).ownBlock) v5 x5_2) ∧ Yt (Kd.R (Kd.int .u32) 47 w' w.heap.size (fun k_ => some k_ ≠ (v5 : Value).ownBlock) v6 x6_2) ∧ Yt (Below w.heap.size w w'))
   case atStart => exact ⟨(t704), (t707), H', ⟨Nat.le_refl _⟩, ⟨by (with_reducible repeat (first | apply Kd.Zf | apply Kd.Ze | apply Kd.Zj)); exact Kd.Zv HO706.out (fun _ hk => hk.2)⟩, ⟨by (with_reducible repeat (first | apply Kd.Zf | apply Kd.Ze | apply Kd.Zj)); exact Kd.Zv HO709.out (fun _ hk => hk.2)⟩, ⟨Qa0⟩⟩
   case round =>
    clear H'
    try clear c1; try clear c2; try clear p2; try clear c4; try clear c5; try clear c5b0; try clear c5b1; try clear c5b2; try clear p6; try clear c8; try clear c9; try clear c9b0; try clear c9b1; try clear c9b2; try clear c20; try clear c22; try clear p2; try clear p6
    obtain ⟨x5_2, x6_2, HA, HK2, HO_5, HO_6, HB⟩ := hrel
    cases gk with
    | zero => exact absurd HA.out (by simp [r1_Common.l1])
    | succ k2 =>
     have H := HA.out
     clear HA
     simp only [r1_Common.l1] at H
     have HC27 := Yt.mk H
     clear H
     go_upto_region 10 with (fail)
     go_cut [45] (fun v45 wc => ∃ (kq : Nat) (x45_26 : Bool), v45 = .bool x45_26 ∧ Yt (r1_Common.j3 kq x5_2 x6_2 x7_13 x45_26 = some r) ∧ Yt (kq ≤ k2) ∧ Yt (Kd.R (Kd.int .u32) 47 wc w.heap.size (fun k_ => some k_ ≠ (u6 : Value).ownBlock) u5 x5_2) ∧ Yt (Kd.R (Kd.int .u32) 47 wc w.heap.size (fun k_ => some k_ ≠ (u5 : Value).ownBlock) u6 x6_2) ∧ Yt (Below w.heap.size w wc))
     case first =>
      have H := HC27.out
      clear HC27
      by_cases c28 : (x5_2.length : Int) > 0
      rotate_left
      ·rw [if_neg c28] at H
       have c28b0 : decide (0 < (x5_2.length : Int)) = false := decide_eq_false c28
       have c28b1 : decide (0 < x5_2.length) = false := decide_eq_false (by omega)
       clear c28
       (first | rw [c28b0] | rw [c28b1] | (simp only [Yi, Yj]; rw [c28b0]) | skip)
       have H' := Yt.mk H
       clear H
       obtain ⟨Ao31, co31, eo31⟩ := Kd.Zx HO_5.out
       subst eo31
       go_wp2
       go_meet
       case rel => exact ⟨_, (false), Qa5, H', ⟨by have := HJ13.out; have := HK2.out; first | omega | exact Nat.le_refl _⟩, ⟨Qr1 HO_5.out⟩, ⟨Qr1 HO_6.out⟩, ⟨Qa0⟩⟩
      rw [if_pos c28] at H
      have c28b0 : decide (0 < (x5_2.length : Int)) = true := decide_eq_true c28
      have c28b1 : decide (0 < x5_2.length) = true := decide_eq_true (by omega)
      clear c28
      (first | rw [c28b0] | rw [c28b1] | (simp only [Yi, Yj]; rw [c28b0]) | skip)
      have H' := Yt.mk H
      clear H
      obtain ⟨Ao29, co29, eo29⟩ := Kd.Zx HO_5.out
      subst eo29
      obtain ⟨Ao30, co30, eo30⟩ := Kd.Zx HO_6.out
      subst eo30
      go_wp2
      go_meet
      case rel => exact ⟨_, (decide (0 < x6_2.length)), Qa5, H', ⟨by have := HJ13.out; have := HK2.out; first | omega | exact Nat.le_refl _⟩, ⟨Qr1 HO_5.out⟩, ⟨Qr1 HO_6.out⟩, ⟨Qa0⟩⟩
     case rest =>
      clear HC27
      try clear c1; try clear c2; try clear p2; try clear c4; try clear c5; try clear c5b0; try clear c5b1; try clear c5b2; try clear p6; try clear c8; try clear c9; try clear c9b0; try clear c9b1; try clear c9b2; try clear c20; try clear c22; try clear c28; try clear c28b0; try clear c28b1; try clear p2; try clear p6
      obtain ⟨kq, x45_26, rfl, HA, HJ26, HO_5, HO_6, HB⟩ := hcut
      cases kq with
      | zero => exact absurd HA.out (by simp [r1_Common.j3])
      | succ kj26 =>
       have H := HA.out
       clear HA
       simp only [r1_Common.j3] at H
       by_cases c32 : x45_26 = true
       rotate_left
       ·replace c32 := Bool.eq_false_iff.mpr c32
        subst c32
        rw [if_neg (show ¬ (false = true) by decide)] at H
        replace H := Option.bind_eq_some_iff.mp H
        obtain ⟨t710, A560, H⟩ := H
        try dsimp only at H
        have A56 := Yt.mk A560
        clear A560
        replace H := Option.bind_eq_some_iff.mp H
        obtain ⟨t713, A570, H⟩ := H
        replace H : (some t713) = some r := H
        have A57 := Yt.mk A570
        clear A570
        obtain rfl := Option.some.inj H
        obtain ⟨Ao58, co58, eo58⟩ := Kd.Zx HO_5.out
        subst eo58
        obtain ⟨Ao59, co59, eo59⟩ := Kd.Zx HO_6.out
        subst eo59
        go_wp2_with (first | ((with_reducible refine Zr (f := 37) rfl ?_); refine Yg (some 68) rfl rfl Try.func37 Qa8 rfl #[.slice Ao58 x5_2.length co58, .slice Ao59 x6_2.length co59] rfl Qa2 ?_; (with_reducible refine (r1_Plus.calls kj26 _ _ x5_2 _ _ x6_2 t710 _ ?side1 ?side2 ?side3 ?side4 A56.out).mono ?_); (case side1 => exact Qe11 (Kd.Zs HO_5.out).2.2); (case side2 => exact (Kd.Zs HO_5.out).2.1); (case side3 => exact Qe11 (Kd.Zs HO_6.out).2.2); (case side4 => exact (Kd.Zs HO_6.out).2.1); rintro e w60 ⟨v711, rfl, ho0, hb⟩; refine ⟨_, rfl, ?_⟩; have HO712 := Yt.mk (Kd.Yb (Kd.Ya (Kd.Ya ho0 (Kd.R_lt (Qr1 HO_5.out))) (Kd.R_lt (Qr1 HO_6.out))) (Zk (Qa0))); replace HO_5 := Yt.mk (Kd.Yf (Qr1 HO_5.out) (Kd.Zw ho0) hb); replace HO_6 := Yt.mk (Kd.Yf (Qr1 HO_6.out) (Kd.Zw ho0) hb); replace HB := Yt.mk (Zm (Qa0) hb); (try clear hb); (try clear ho0); obtain ⟨Ao61, co61, eo61⟩ := Kd.Zx HO712.out; subst eo61) | ((with_reducible refine Zr (f := 84) rfl ?_); refine Yg (some 70) rfl rfl Try.func84 Qa8 rfl #[.slice Ao61 t710.length co61, .int .i64 x7_13] rfl Qa2 ?_; (with_reducible refine (r1_Shl.calls kj26 _ _ t710 x7_13 t713 _ ?side1 ?side2 A57.out).mono ?_); (case side1 => exact Qe11 (Kd.Zs HO712.out).2.2); (case side2 => exact (Kd.Zs HO712.out).2.1); rintro e w62 ⟨v714, rfl, ho0, hb⟩; refine ⟨_, rfl, ?_⟩; have HO715 := Yt.mk (Kd.Yb (Kd.Ya (Kd.Ya (Kd.Ya ho0 (Kd.R_lt (Qr1 HO_5.out))) (Kd.R_lt (Qr1 HO_6.out))) (Kd.R_lt (Qr1 HO712.out))) (Zk (Qa0))); replace HO_5 := Yt.mk (Kd.Yf (Qr1 HO_5.out) (Kd.Zw ho0) hb); replace HO_6 := Yt.mk (Kd.Yf (Qr1 HO_6.out) (Kd.Zw ho0) hb); replace HO712 := Yt.mk (Kd.Yf (Qr1 HO712.out) (Kd.Zw ho0) hb); replace HB := Yt.mk (Zm (Qa0) hb); (try clear hb); (try clear ho0)))
        go_ret
        exact ⟨_, Qa4, by (with_reducible repeat (first | apply Kd.Zf | apply Kd.Ze | apply Kd.Zj)); exact Kd.Zv HO715.out (fun _ hk => trivial), Qa0⟩
       subst c32
       rw [if_pos rfl] at H
       replace H := Option.bind_eq_some_iff.mp H
       obtain ⟨t716, A330, H⟩ := H
       try dsimp only at H
       have A33 := Yt.mk A330
       clear A330
       by_cases c34 : t716 = true
       rotate_left
       ·replace c34 := Bool.eq_false_iff.mpr c34
        subst c34
        rw [if_neg (show ¬ (false = true) by decide)] at H
        replace H := Option.bind_eq_some_iff.mp H
        obtain ⟨t728, A530, H⟩ := H
        replace H : (r1_Common.l1 kj26 t728 x6_2 x7_13) = some r := H
        have A53 := Yt.mk A530
        clear A530
        have H' := Yt.mk H
        clear H
        obtain ⟨Ao54, co54, eo54⟩ := Kd.Zx HO_5.out
        subst eo54
        go_wp2_with (first | ((with_reducible refine Zr (f := 85) rfl ?_); refine Yg (some 47) rfl rfl Try.func85 Qa8 rfl #[.slice Ao54 x5_2.length co54, .int .i64 0] rfl Qa2 ?_; (with_reducible refine (r1_Bit.calls _ _ x5_2 0 false _ ?side1 ?side2 A33.out).mono ?_); (case side1 => exact Qe11 (Kd.Zs HO_5.out).2.2); (case side2 => exact (Kd.Zs HO_5.out).2.1); rintro e w' ⟨rfl, ⟨nd, rfl⟩⟩; refine ⟨_, rfl, ?_⟩) | ((with_reducible refine Zr (f := 92) rfl ?_); refine Yg (some 50) rfl rfl Try.func92 Qa8 rfl #[.slice Ao54 x5_2.length co54, .int .i64 1] rfl Qa2 ?_; (with_reducible refine (r1_Shr.calls kj26 _ _ x5_2 1 t728 _ ?side1 ?side2 A53.out).mono ?_); (case side1 => exact Qe11 (Kd.Zs HO_5.out).2.2); (case side2 => exact (Kd.Zs HO_5.out).2.1); rintro e w55 ⟨v729, rfl, ho0, hb⟩; refine ⟨_, rfl, ?_⟩; have HO730 := Yt.mk (Kd.Yb (Kd.Ya (Kd.Ya ho0 (Kd.R_lt (Qr1 HO_5.out))) (Kd.R_lt (Qr1 HO_6.out))) (Zk (Qa0))); replace HO_5 := Yt.mk (Kd.Yf (Qr1 HO_5.out) (Kd.Zw ho0) hb); replace HO_6 := Yt.mk (Kd.Yf (Qr1 HO_6.out) (Kd.Zw ho0) hb); replace HB := Yt.mk (Zm (Qa0) hb); (try clear hb); (try clear ho0)))
        go_roundg kj26
        case measure => have := HJ13.out; have := HK2.out; have := HJ26.out; omega
        case rel => exact ⟨(t728), (x6_2), H', ⟨by have := HJ13.out; have := HK2.out; have := HJ26.out; omega⟩, ⟨by (with_reducible repeat (first | apply Kd.Zf | apply Kd.Ze | apply Kd.Zj)); exact Kd.Zv HO730.out (fun _ hk => hk.2)⟩, ⟨by (with_reducible repeat (first | apply Kd.Zf | apply Kd.Ze | apply Kd.Zj)); exact Kd.Zv HO_6.out (fun _ hk => hk.2)⟩, ⟨Qa0⟩⟩
       subst c34
       rw [if_pos rfl] at H
       replace H := Option.bind_eq_some_iff.mp H
       obtain ⟨t717, A350, H⟩ := H
       try dsimp only at H
       have A35 := Yt.mk A350
       clear A350
       by_cases c36 : t717 = true
       rotate_left
       ·replace c36 := Bool.eq_false_iff.mpr c36
        subst c36
        rw [if_neg (show ¬ (false = true) by decide)] at H
        replace H := Option.bind_eq_some_iff.mp H
        obtain ⟨t725, A490, H⟩ := H
        replace H : (r1_Common.l1 kj26 x5_2 t725 x7_13) = some r := H
        have A49 := Yt.mk A490
        clear A490
        have H' := Yt.mk H
        clear H
        obtain ⟨Ao50, co50, eo50⟩ := Kd.Zx HO_5.out
        subst eo50
        go_wp2_with (first | ((with_reducible refine Zr (f := 85) rfl ?_); refine Yg (some 47) rfl rfl Try.func85 Qa8 rfl #[.slice Ao50 x5_2.length co50, .int .i64 0] rfl Qa2 ?_; (with_reducible refine (r1_Bit.calls _ _ x5_2 0 true _ ?side1 ?side2 A33.out).mono ?_); (case side1 => exact Qe11 (Kd.Zs HO_5.out).2.2); (case side2 => exact (Kd.Zs HO_5.out).2.1); rintro e w' ⟨rfl, ⟨nd, rfl⟩⟩; refine ⟨_, rfl, ?_⟩; obtain ⟨Ao51, co51, eo51⟩ := Kd.Zx HO_6.out; subst eo51) | ((with_reducible refine Zr (f := 85) rfl ?_); refine Yg (some 52) rfl rfl Try.func85 Qa8 rfl #[.slice Ao51 x6_2.length co51, .int .i64 0] rfl Qa2 ?_; (with_reducible refine (r1_Bit.calls _ _ x6_2 0 false _ ?side1 ?side2 A35.out).mono ?_); (case side1 => exact Qe11 (Kd.Zs HO_6.out).2.2); (case side2 => exact (Kd.Zs HO_6.out).2.1); rintro e w' ⟨rfl, ⟨nd, rfl⟩⟩; refine ⟨_, rfl, ?_⟩) | ((with_reducible refine Zr (f := 92) rfl ?_); refine Yg (some 55) rfl rfl Try.func92 Qa8 rfl #[.slice Ao51 x6_2.length co51, .int .i64 1] rfl Qa2 ?_; (with_reducible refine (r1_Shr.calls kj26 _ _ x6_2 1 t725 _ ?side1 ?side2 A49.out).mono ?_); (case side1 => exact Qe11 (Kd.Zs HO_6.out).2.2); (case side2 => exact (Kd.Zs HO_6.out).2.1); rintro e w52 ⟨v726, rfl, ho0, hb⟩; refine ⟨_, rfl, ?_⟩; have HO727 := Yt.mk (Kd.Yb (Kd.Ya (Kd.Ya ho0 (Kd.R_lt (Qr1 HO_5.out))) (Kd.R_lt (Qr1 HO_6.out))) (Zk (Qa0))); replace HO_5 := Yt.mk (Kd.Yf (Qr1 HO_5.out) (Kd.Zw ho0) hb); replace HO_6 := Yt.mk (Kd.Yf (Qr1 HO_6.out) (Kd.Zw ho0) hb); replace HB := Yt.mk (Zm (Qa0) hb); (try clear hb); (try clear ho0)))
        go_roundg kj26
        case measure => have := HJ13.out; have := HK2.out; have := HJ26.out; omega
        case rel => exact ⟨(x5_2), (t725), H', ⟨by have := HJ13.out; have := HK2.out; have := HJ26.out; omega⟩, ⟨by (with_reducible repeat (first | apply Kd.Zf | apply Kd.Ze | apply Kd.Zj)); exact Kd.Zv HO_5.out (fun _ hk => hk.2)⟩, ⟨by (with_reducible repeat (first | apply Kd.Zf | apply Kd.Ze | apply Kd.Zj)); exact Kd.Zv HO727.out (fun _ hk => hk.1.2)⟩, ⟨Qa0⟩⟩
       subst c36
       rw [if_pos rfl] at H
       replace H := Option.bind_eq_some_iff.mp H
       obtain ⟨t718, A370, H⟩ := H
       try dsimp only at H
       have A37 := Yt.mk A370
       clear A370
       by_cases c38 : t718 ≥ 0
       ·rw [if_pos c38] at H
        have c38b0 : decide (0 ≤ t718) = true := decide_eq_true c38
        clear c38
        replace H := Option.bind_eq_some_iff.mp H
        obtain ⟨t719, A390, H⟩ := H
        replace H : (r1_Common.l1 kj26 t719 x6_2 x7_13) = some r := H
        have A39 := Yt.mk A390
        clear A390
        have H' := Yt.mk H
        clear H
        obtain ⟨Ao40, co40, eo40⟩ := Kd.Zx HO_5.out
        subst eo40
        go_wp2_with (first | ((with_reducible refine Zr (f := 85) rfl ?_); refine Yg (some 47) rfl rfl Try.func85 Qa8 rfl #[.slice Ao40 x5_2.length co40, .int .i64 0] rfl Qa2 ?_; (with_reducible refine (r1_Bit.calls _ _ x5_2 0 true _ ?side1 ?side2 A33.out).mono ?_); (case side1 => exact Qe11 (Kd.Zs HO_5.out).2.2); (case side2 => exact (Kd.Zs HO_5.out).2.1); rintro e w' ⟨rfl, ⟨nd, rfl⟩⟩; refine ⟨_, rfl, ?_⟩; obtain ⟨Ao41, co41, eo41⟩ := Kd.Zx HO_6.out; subst eo41) | ((with_reducible refine Zr (f := 85) rfl ?_); refine Yg (some 52) rfl rfl Try.func85 Qa8 rfl #[.slice Ao41 x6_2.length co41, .int .i64 0] rfl Qa2 ?_; (with_reducible refine (r1_Bit.calls _ _ x6_2 0 true _ ?side1 ?side2 A35.out).mono ?_); (case side1 => exact Qe11 (Kd.Zs HO_6.out).2.2); (case side2 => exact (Kd.Zs HO_6.out).2.1); rintro e w' ⟨rfl, ⟨nd, rfl⟩⟩; refine ⟨_, rfl, ?_⟩) | ((with_reducible refine Zr (f := 36) rfl ?_); refine Yg (some 58) rfl rfl Try.func36 Qa8 rfl #[.slice Ao40 x5_2.length co40, .slice Ao41 x6_2.length co41] rfl Qa2 ?_; (with_reducible refine (r1_Cmp.calls kj26 _ _ x5_2 _ _ x6_2 t718 _ ?side1 ?side2 ?side3 ?side4 A37.out).mono ?_); (case side1 => exact Qe11 (Kd.Zs HO_5.out).2.2); (case side2 => exact (Kd.Zs HO_5.out).2.1); (case side3 => exact Qe11 (Kd.Zs HO_6.out).2.2); (case side4 => exact (Kd.Zs HO_6.out).2.1); rintro e w42 ⟨rfl, hb⟩; refine ⟨_, rfl, ?_⟩; replace HO_5 := Yt.mk (Kd.Yd (Qr1 HO_5.out) hb); replace HO_6 := Yt.mk (Kd.Yd (Qr1 HO_6.out) hb); replace HB := Yt.mk (Zm (Qa0) hb); (try clear hb)) | ((with_reducible refine Zr (f := 45) rfl ?_); refine Yg (some 62) rfl rfl Try.func45 Qa8 rfl #[.slice Ao40 x5_2.length co40, .slice Ao41 x6_2.length co41] rfl Qa2 ?_; (with_reducible refine (r1_Minus.calls kj26 _ _ x5_2 _ _ x6_2 t719 _ ?side1 ?side2 ?side3 ?side4 A39.out).mono ?_); (case side1 => exact Qe11 (Kd.Zs HO_5.out).2.2); (case side2 => exact (Kd.Zs HO_5.out).2.1); (case side3 => exact Qe11 (Kd.Zs HO_6.out).2.2); (case side4 => exact (Kd.Zs HO_6.out).2.1); rintro e w43 ⟨v720, rfl, ho0, hb⟩; refine ⟨_, rfl, ?_⟩; have HO721 := Yt.mk (Kd.Yb (Kd.Ya (Kd.Ya ho0 (Kd.R_lt (Qr1 HO_5.out))) (Kd.R_lt (Qr1 HO_6.out))) (Zk (Qa0))); replace HO_5 := Yt.mk (Kd.Yf (Qr1 HO_5.out) (Kd.Zw ho0) hb); replace HO_6 := Yt.mk (Kd.Yf (Qr1 HO_6.out) (Kd.Zw ho0) hb); replace HB := Yt.mk (Zm (Qa0) hb); (try clear hb); (try clear ho0)))
        go_roundg kj26
        case measure => have := HJ13.out; have := HK2.out; have := HJ26.out; omega
        case rel => exact ⟨(t719), (x6_2), H', ⟨by have := HJ13.out; have := HK2.out; have := HJ26.out; omega⟩, ⟨by (with_reducible repeat (first | apply Kd.Zf | apply Kd.Ze | apply Kd.Zj)); exact Kd.Zv HO721.out (fun _ hk => hk.2)⟩, ⟨by (with_reducible repeat (first | apply Kd.Zf | apply Kd.Ze | apply Kd.Zj)); exact Kd.Zv HO_6.out (fun _ hk => hk.2)⟩, ⟨Qa0⟩⟩
       rw [if_neg c38] at H
       have c38b0 : decide (0 ≤ t718) = false := decide_eq_false c38
       clear c38
       replace H := Option.bind_eq_some_iff.mp H
       obtain ⟨t722, A440, H⟩ := H
       replace H : (r1_Common.l1 kj26 x5_2 t722 x7_13) = some r := H
       have A44 := Yt.mk A440
       clear A440
       have H' := Yt.mk H
       clear H
       obtain ⟨Ao45, co45, eo45⟩ := Kd.Zx HO_5.out
       subst eo45
       go_wp2_with (first | ((with_reducible refine Zr (f := 85) rfl ?_); refine Yg (some 47) rfl rfl Try.func85 Qa8 rfl #[.slice Ao45 x5_2.length co45, .int .i64 0] rfl Qa2 ?_; (with_reducible refine (r1_Bit.calls _ _ x5_2 0 true _ ?side1 ?side2 A33.out).mono ?_); (case side1 => exact Qe11 (Kd.Zs HO_5.out).2.2); (case side2 => exact (Kd.Zs HO_5.out).2.1); rintro e w' ⟨rfl, ⟨nd, rfl⟩⟩; refine ⟨_, rfl, ?_⟩; obtain ⟨Ao46, co46, eo46⟩ := Kd.Zx HO_6.out; subst eo46) | ((with_reducible refine Zr (f := 85) rfl ?_); refine Yg (some 52) rfl rfl Try.func85 Qa8 rfl #[.slice Ao46 x6_2.length co46, .int .i64 0] rfl Qa2 ?_; (with_reducible refine (r1_Bit.calls _ _ x6_2 0 true _ ?side1 ?side2 A35.out).mono ?_); (case side1 => exact Qe11 (Kd.Zs HO_6.out).2.2); (case side2 => exact (Kd.Zs HO_6.out).2.1); rintro e w' ⟨rfl, ⟨nd, rfl⟩⟩; refine ⟨_, rfl, ?_⟩) | ((with_reducible refine Zr (f := 36) rfl ?_); refine Yg (some 58) rfl rfl Try.func36 Qa8 rfl #[.slice Ao45 x5_2.length co45, .slice Ao46 x6_2.length co46] rfl Qa2 ?_; (with_reducible refine (r1_Cmp.calls kj26 _ _ x5_2 _ _ x6_2 t718 _ ?side1 ?side2 ?side3 ?side4 A37.out).mono ?_); (case side1 => exact Qe11 (Kd.Zs HO_5.out).2.2); (case side2 => exact (Kd.Zs HO_5.out).2.1); (case side3 => exact Qe11 (Kd.Zs HO_6.out).2.2); (case side4 => exact (Kd.Zs HO_6.out).2.1); rintro e w47 ⟨rfl, hb⟩; refine ⟨_, rfl, ?_⟩; replace HO_5 := Yt.mk (Kd.Yd (Qr1 HO_5.out) hb); replace HO_6 := Yt.mk (Kd.Yd (Qr1 HO_6.out) hb); replace HB := Yt.mk (Zm (Qa0) hb); (try clear hb)) | ((with_reducible refine Zr (f := 45) rfl ?_); refine Yg (some 65) rfl rfl Try.func45 Qa8 rfl #[.slice Ao46 x6_2.length co46, .slice Ao45 x5_2.length co45] rfl Qa2 ?_; (with_reducible refine (r1_Minus.calls kj26 _ _ x6_2 _ _ x5_2 t722 _ ?side1 ?side2 ?side3 ?side4 A44.out).mono ?_); (case side1 => exact Qe11 (Kd.Zs HO_6.out).2.2); (case side2 => exact (Kd.Zs HO_6.out).2.1); (case side3 => exact Qe11 (Kd.Zs HO_5.out).2.2); (case side4 => exact (Kd.Zs HO_5.out).2.1); rintro e w48 ⟨v723, rfl, ho0, hb⟩; refine ⟨_, rfl, ?_⟩; have HO724 := Yt.mk (Kd.Yb (Kd.Ya (Kd.Ya ho0 (Kd.R_lt (Qr1 HO_5.out))) (Kd.R_lt (Qr1 HO_6.out))) (Zk (Qa0))); replace HO_5 := Yt.mk (Kd.Yf (Qr1 HO_5.out) (Kd.Zw ho0) hb); replace HO_6 := Yt.mk (Kd.Yf (Qr1 HO_6.out) (Kd.Zw ho0) hb); replace HB := Yt.mk (Zm (Qa0) hb); (try clear hb); (try clear ho0)))
       go_roundg kj26
       case measure => have := HJ13.out; have := HK2.out; have := HJ26.out; omega
       case rel => exact ⟨(x5_2), (t722), H', ⟨by have := HJ13.out; have := HK2.out; have := HJ26.out; omega⟩, ⟨by (with_reducible repeat (first | apply Kd.Zf | apply Kd.Ze | apply Kd.Zj)); exact Kd.Zv HO_5.out (fun _ hk => hk.2)⟩, ⟨by (with_reducible repeat (first | apply Kd.Zf | apply Kd.Ze | apply Kd.Zj)); exact Kd.Zv HO724.out (fun _ hk => hk.1.2)⟩, ⟨Qa0⟩⟩
def r2_Make.f (k : Nat) (a0 : Bool) (l1 : List Int) (l2 : List Int) : Option (Bool × List Int × List Int × Int) := (r1_Trim.f k l1).bind fun t1174 => ((r1_Trim.f k l2).bind fun t1177 => (if (t1177.length : Int) = 0 then (some (false, ([] : List Int), ([] : List Int), 10)) else (if (t1174.length : Int) = 0 then (some (false, ([] : List Int), (([1] : List Int)), 0)) else ((r1_Common.f k t1174 t1177).bind fun t1183 => ((r1_Divide.f k t1174 t1183).bind fun bt1186 => ((r1_Divide.f k t1177 t1183).bind fun bt1192 => (if (bt1186.1.length : Int) > 16 then (some (false, ([] : List Int), ([] : List Int), 4)) else (if (bt1192.1.length : Int) > 16 then (some (false, ([] : List Int), ([] : List Int), 4)) else (some (a0, bt1186.1, bt1192.1, 0))))))))))
theorem r2_Make.calls (k : Nat) (a0 : Bool) (A1 : Option Addr) (c1 : Nat) (l1 : List Int) (A2 : Option Addr) (c2 : Nat) (l2 : List Int) (r1 : Bool) (r2 : List Int) (r3 : List Int) (r4 : Int) (w : World) (hr1 : Kd.C (Kd.int .u32) w A1 l1.length l1) (hc1 : l1.length ≤ c1) (hr2 : Kd.C (Kd.int .u32) w A2 l2.length l2) (hc2 : l2.length ≤ c2) (h : r2_Make.f k a0 l1 l2 = some (r1, r2, r3, r4)) :
  Calls Try.prog 49 #[.bool a0, .slice A1 l1.length c1, .slice A2 l2.length c2] w fun e w' => ∃ v1_ v2_ : Value, e = .returned (.tuple #[.agg #[.bool r1, v1_, v2_], .int .i64 r4]) ∧ Kd.R (Kd.int .u32) 47 w' w.heap.size (fun k_ => some k_ ≠ (v2_ : Value).ownBlock) v1_ r2 ∧ Kd.R (Kd.int .u32) 47 w' w.heap.size (fun k_ => some k_ ≠ (v1_ : Value).ownBlock) v2_ r3 ∧ Below w.heap.size w w' := by
 have hu50 := Try.underlying50
 have HR1 := Yt.mk hr1
 have HC1 := Yt.mk hc1
 clear hr1 hc1
 have HR2 := Yt.mk hr2
 have HC2 := Yt.mk hc2
 clear hr2 hc2
 have HB := Yt.mk (Below.refl w.heap.size w)
 unfold r2_Make.f at h
 have H := h
 clear h
 replace H := Option.bind_eq_some_iff.mp H
 obtain ⟨t1174, A40, H⟩ := H
 try dsimp only at H
 have A4 := Yt.mk A40
 clear A40
 replace H := Option.bind_eq_some_iff.mp H
 obtain ⟨t1177, A50, H⟩ := H
 try dsimp only at H
 have A5 := Yt.mk A50
 clear A50
 by_cases c6 : (t1177.length : Int) = 0
 ·rw [if_pos c6] at H
  have c6b0 : ((t1177.length : Int) == 0) = true := beq_iff_eq.mpr c6
  have c6b1 : ((t1177.length : Int) != 0) = false := bne_eq_false_iff_eq.mpr c6
  clear c6
  simp only [Option.some.injEq, Prod.mk.injEq] at H
  obtain ⟨rfl, rfl, rfl, rfl⟩ := H
  go_enter Try.func49, Try.ntmps49
  go_wp2_with (first | ((with_reducible refine Yk (N := 6) rfl ?_); (try (refine gate_guard (by rfl) ?_; dsimp only)); refine Yo ?hg (N := 6) ?hd (cs := #[.bool false, .slice none 0 0, .slice none 0 0]) (t := 50) ?hr ?_; (case hd => rfl); (case hg => rfl); (case hr => exact Qa9); intro gb1173 hg w7 hbox hb; have BK1173 := Yt.mk (hbox); have GW1173 := Yt.mk ((by rw [hg]; exact (Zk (Qa0)) : w.heap.size ≤ gb1173)); have GE1173 := Yt.mk ((by rw [hg]; exact (Zk (Qa0)) : w.heap.size ≤ gb1173)); replace HB := Yt.mk (Zm (Qa0) hb); clear hb hbox hg) | ((with_reducible refine Zr (f := 46) rfl ?_); refine Yg (some 12) rfl rfl Try.func46 Qa8 rfl #[.slice A1 l1.length c1] rfl Qa2 ?_; (with_reducible refine (r1_Trim.calls k _ _ l1 t1174 _ ?side1 ?side2 A4.out).mono ?_); (case side1 => exact Qe11 (Kd.Ys HR1.out HB.out)); (case side2 => exact HC1.out); rintro e w8 ⟨v1175, rfl, ho0, hb⟩; refine ⟨_, rfl, ?_⟩; have HO1176 := Yt.mk (Kd.Yb ho0 (Zk (Qa0))); replace BK1173 := Yt.mk (Zq (g := gb1173) (o := .cells #[.bool false, .slice none 0 0, .slice none 0 0] 50 (0, 0)) (Qr12 BK1173.out) hb); replace HB := Yt.mk (Zm (Qa0) hb); (try clear hb); (try clear ho0)) | ((with_reducible refine Zr (f := 46) rfl ?_); refine Yg (some 14) rfl rfl Try.func46 Qa8 rfl #[.slice A2 l2.length c2] rfl Qa2 ?_; (with_reducible refine (r1_Trim.calls k _ _ l2 t1177 _ ?side1 ?side2 A5.out).mono ?_); (case side1 => exact Qe11 (Kd.Ys HR2.out HB.out)); (case side2 => exact HC2.out); rintro e w9 ⟨v1178, rfl, ho0, hb⟩; refine ⟨_, rfl, ?_⟩; have HO1179 := Yt.mk (Kd.Yb (Kd.Ya ho0 (Kd.R_lt (Qr1 HO1176.out))) (Zk (Qa0))); replace HO1176 := Yt.mk (Kd.Yf (Qr1 HO1176.out) (Kd.Zw ho0) hb); replace BK1173 := Yt.mk (Zq (g := gb1173) (o := .cells #[.bool false, .slice none 0 0, .slice none 0 0] 50 (0, 0)) (Qr12 BK1173.out) hb); replace HB := Yt.mk (Zm (Qa0) hb); (try clear hb); (try clear ho0); obtain ⟨Ao10, co10, eo10⟩ := Kd.Zx HO1179.out; subst eo10; have hcz11_0 : w9.cell? ⟨gb1173, 0, none⟩ = some (.bool false) := (Zl BK1173.out 0).trans rfl; have hcz11_1 : w9.cell? ⟨gb1173, 1, none⟩ = some (.slice none 0 0) := (Zl BK1173.out 1).trans rfl; have hcz11_2 : w9.cell? ⟨gb1173, 2, none⟩ = some (.slice none 0 0) := (Zl BK1173.out 2).trans rfl; have hfz11_0 := Zn BK1173.out 0; have hfz11_1 := Zn BK1173.out 1; have hfz11_2 := Zn BK1173.out 2))
  refine bodyPost_ret (results_ct rfl _ _ gb1173 50 #[.bool false, .slice none 0 0, .slice none 0 0] (0, 0) _ rfl (by (with_reducible repeat (first | refine Zg ?_ _ | refine Zi ?_ | refine Zh ?_ _)); refine Ym (cs := #[.bool false, .slice none 0 0, .slice none 0 0]) ?_ 2 _ rfl; (with_reducible repeat (first | refine Zg ?_ _ | refine Zi ?_ | refine Zh ?_ _)); refine Ym (cs := #[.bool false, .slice none 0 0, .slice none 0 0]) ?_ 1 _ rfl; (with_reducible repeat (first | refine Zg ?_ _ | refine Zi ?_ | refine Zh ?_ _)); refine Ym (cs := #[.bool false, .slice none 0 0, .slice none 0 0]) ?_ 0 _ rfl; (with_reducible repeat (first | refine Zg ?_ _ | refine Zi ?_ | refine Zh ?_ _)); exact BK1173.out) Try.underlying50 rfl Qa8) rfl ?_
  exact ⟨_, _, Qa4, by first | exact Kd.R_nil _ _ _ _ _ | exact Kd.N_nil _ _ _ _ _ | exact Kd.V_nil _ _ _ _ _ | exact Kd.Q_nil _ _ _ _ _ | exact Kd.S_nil _ _ _ _ _, by first | exact Kd.R_nil _ _ _ _ _ | exact Kd.N_nil _ _ _ _ _ | exact Kd.V_nil _ _ _ _ _ | exact Kd.Q_nil _ _ _ _ _ | exact Kd.S_nil _ _ _ _ _, Qa0⟩
 rw [if_neg c6] at H
 have c6b0 : ((t1177.length : Int) == 0) = false := beq_eq_false_iff_ne.mpr c6
 have c6b1 : ((t1177.length : Int) != 0) = true := bne_iff_ne.mpr c6
 have c6b2 : ¬ (t1177 = []) := fun h_ => c6 (by rw [h_]; rfl)
 by_cases c12 : (t1174.length : Int) = 0
 ·rw [if_pos c12] at H
  have c12b0 : ((t1174.length : Int) == 0) = true := beq_iff_eq.mpr c12
  have c12b1 : ((t1174.length : Int) != 0) = false := bne_eq_false_iff_eq.mpr c12
  clear c12
  obtain ⟨y1180, hy1180⟩ : ∃ y_ : List Int, y_ = (([1] : List Int)) := ⟨_, rfl⟩
  replace H : (some (false, ([] : List Int), y1180, 0)) = some (r1, r2, r3, r4) := Qh hy1180 H
  have Ny1180 := Yt.mk hy1180
  clear hy1180
  simp only [Option.some.injEq, Prod.mk.injEq] at H
  obtain ⟨rfl, rfl, rfl, rfl⟩ := H
  go_enter Try.func49, Try.ntmps49
  go_wp2_with (first | ((with_reducible refine Yk (N := 6) rfl ?_); (try (refine gate_guard (by rfl) ?_; dsimp only)); refine Yo ?hg (N := 6) ?hd (cs := #[.bool false, .slice none 0 0, .slice none 0 0]) (t := 50) ?hr ?_; (case hd => rfl); (case hg => rfl); (case hr => exact Qa9); intro gb1173 hg w13 hbox hb; have BK1173 := Yt.mk (hbox); have GW1173 := Yt.mk ((by rw [hg]; exact (Zk (Qa0)) : w.heap.size ≤ gb1173)); have GE1173 := Yt.mk ((by rw [hg]; exact (Zk (Qa0)) : w.heap.size ≤ gb1173)); replace HB := Yt.mk (Zm (Qa0) hb); clear hb hbox hg) | ((with_reducible refine Zr (f := 46) rfl ?_); refine Yg (some 12) rfl rfl Try.func46 Qa8 rfl #[.slice A1 l1.length c1] rfl Qa2 ?_; (with_reducible refine (r1_Trim.calls k _ _ l1 t1174 _ ?side1 ?side2 A4.out).mono ?_); (case side1 => exact Qe11 (Kd.Ys HR1.out HB.out)); (case side2 => exact HC1.out); rintro e w14 ⟨v1175, rfl, ho0, hb⟩; refine ⟨_, rfl, ?_⟩; have HO1176 := Yt.mk (Kd.Yb ho0 (Zk (Qa0))); replace BK1173 := Yt.mk (Zq (g := gb1173) (o := .cells #[.bool false, .slice none 0 0, .slice none 0 0] 50 (0, 0)) (Qr12 BK1173.out) hb); replace HB := Yt.mk (Zm (Qa0) hb); (try clear hb); (try clear ho0)) | ((with_reducible refine Zr (f := 46) rfl ?_); refine Yg (some 14) rfl rfl Try.func46 Qa8 rfl #[.slice A2 l2.length c2] rfl Qa2 ?_; (with_reducible refine (r1_Trim.calls k _ _ l2 t1177 _ ?side1 ?side2 A5.out).mono ?_); (case side1 => exact Qe11 (Kd.Ys HR2.out HB.out)); (case side2 => exact HC2.out); rintro e w15 ⟨v1178, rfl, ho0, hb⟩; refine ⟨_, rfl, ?_⟩; have HO1179 := Yt.mk (Kd.Yb (Kd.Ya ho0 (Kd.R_lt (Qr1 HO1176.out))) (Zk (Qa0))); replace HO1176 := Yt.mk (Kd.Yf (Qr1 HO1176.out) (Kd.Zw ho0) hb); replace BK1173 := Yt.mk (Zq (g := gb1173) (o := .cells #[.bool false, .slice none 0 0, .slice none 0 0] 50 (0, 0)) (Qr12 BK1173.out) hb); replace HB := Yt.mk (Zm (Qa0) hb); (try clear hb); (try clear ho0); obtain ⟨Ao16, co16, eo16⟩ := Kd.Zx HO1179.out; subst eo16; obtain ⟨Ao17, co17, eo17⟩ := Kd.Zx HO1176.out; subst eo17) | ((with_reducible refine Yk (N := 22) rfl ?_); (try (refine gate_guard (by rfl) ?_; dsimp only)); refine Kd.R_lit (Kd.int .u32) _ 47 ?hg (N := 22) ?hd (xs := ([1] : List Int)) (inner := [.int .u32 1]) (ok := fun _ => True) (okp := fun _ => True) ?hr ?hp (fun _ hk => hk) trivial (Below.refl _ _) (Nat.le_refl _) (by simp) ?_; (case hd => rfl); (case hg => rfl); (case hr => exact Qa9); (case hp => exact (Reps.one (show Kd.M (Kd.int .u32) _ _ _ 1 [.int .u32 1] from rfl) (Reps.none _ _))); intro v1181 w18 ho19 hb hg_ hnew_; clear hg_ hnew_; (first | rw [← Ny1180.out] at ho19 | (simp only [Int.reduceToNat] at ho19; rw [← Ny1180.out] at ho19)); have HO1182 := Yt.mk (Kd.Yb (Kd.Ya (Kd.Ya ho19 (Kd.R_lt (Qr1 HO1176.out))) (Kd.R_lt (Qr1 HO1179.out))) (Zk (Qa0))); replace HO1176 := Yt.mk (Kd.Yf (Qr1 HO1176.out) (Kd.Zw ho19) hb); replace HO1179 := Yt.mk (Kd.Yf (Qr1 HO1179.out) (Kd.Zw ho19) hb); replace BK1173 := Yt.mk (Zq (g := gb1173) (o := .cells #[.bool false, .slice none 0 0, .slice none 0 0] 50 (0, 0)) (Qr12 BK1173.out) hb); replace HB := Yt.mk (Zm (Qa0) hb); clear hb ho19; obtain ⟨Ao20, co20, eo20⟩ := Kd.Zx HO1182.out; subst eo20; have hcz21_0 : w18.cell? ⟨gb1173, 0, none⟩ = some (.bool false) := (Zl BK1173.out 0).trans rfl; have hcz21_1 : w18.cell? ⟨gb1173, 1, none⟩ = some (.slice none 0 0) := (Zl BK1173.out 1).trans rfl; have hcz21_2 : w18.cell? ⟨gb1173, 2, none⟩ = some (.slice none 0 0) := (Zl BK1173.out 2).trans rfl; have hfz21_0 := Zn BK1173.out 0; have hfz21_1 := Zn BK1173.out 1; have hfz21_2 := Zn BK1173.out 2))
  refine bodyPost_ret (results_ct rfl _ _ gb1173 50 #[.bool false, .slice none 0 0, .slice Ao20 y1180.length co20] (0, 0) _ rfl (by (with_reducible repeat (first | refine Zg ?_ _ | refine Zi ?_ | refine Zh ?_ _)); refine Ym (cs := #[.bool false, .slice none 0 0, .slice none 0 0]) ?_ 2 _ rfl; (with_reducible repeat (first | refine Zg ?_ _ | refine Zi ?_ | refine Zh ?_ _)); refine Ym (cs := #[.bool false, .slice none 0 0, .slice none 0 0]) ?_ 1 _ rfl; (with_reducible repeat (first | refine Zg ?_ _ | refine Zi ?_ | refine Zh ?_ _)); refine Ym (cs := #[.bool false, .slice none 0 0, .slice none 0 0]) ?_ 0 _ rfl; (with_reducible repeat (first | refine Zg ?_ _ | refine Zi ?_ | refine Zh ?_ _)); exact BK1173.out) Try.underlying50 rfl Qa8) rfl ?_
  exact ⟨_, _, Qa4, by first | exact Kd.R_nil _ _ _ _ _ | exact Kd.N_nil _ _ _ _ _ | exact Kd.V_nil _ _ _ _ _ | exact Kd.Q_nil _ _ _ _ _ | exact Kd.S_nil _ _ _ _ _, by (with_reducible repeat (first | apply Kd.Zf | apply Kd.Ze | apply Kd.Zj)); exact Kd.Zv (Kd.Yh (p := ⟨gb1173, 2, none⟩) (Kd.Yh (p := ⟨gb1173, 1, none⟩) (Kd.Yh (p := ⟨gb1173, 0, none⟩) (Kd.Yq HO1182.out BK1173.out (by decide)) (fun _ hk => hk.2) (.bool false)) (fun _ hk => hk.2) (.slice none 0 0)) (fun _ hk => hk.2) (.slice Ao20 y1180.length co20)) (fun _ hk => (by simp [Value.ownBlock])), Qa0⟩
 rw [if_neg c12] at H
 have c12b0 : ((t1174.length : Int) == 0) = false := beq_eq_false_iff_ne.mpr c12
 have c12b1 : ((t1174.length : Int) != 0) = true := bne_iff_ne.mpr c12
 have c12b2 : ¬ (t1174 = []) := fun h_ => c12 (by rw [h_]; rfl)
 replace H := Option.bind_eq_some_iff.mp H
 obtain ⟨t1183, A220, H⟩ := H
 try dsimp only at H
 have A22 := Yt.mk A220
 clear A220
 replace H := Option.bind_eq_some_iff.mp H
 obtain ⟨⟨t1186, t1187⟩, A230, H⟩ := H
 try dsimp only at H
 have A23 := Yt.mk A230
 clear A230
 replace H := Option.bind_eq_some_iff.mp H
 obtain ⟨⟨t1192, t1193⟩, A240, H⟩ := H
 try dsimp only at H
 have A24 := Yt.mk A240
 clear A240
 by_cases c25 : (t1186.length : Int) > 16
 ·rw [if_pos c25] at H
  have c25b0 : decide (16 < (t1186.length : Int)) = true := decide_eq_true c25
  have c25b1 : decide (16 < t1186.length) = true := decide_eq_true (by omega)
  clear c25
  simp only [Option.some.injEq, Prod.mk.injEq] at H
  obtain ⟨rfl, rfl, rfl, rfl⟩ := H
  go_enter Try.func49, Try.ntmps49
  go_wp2_with (first | ((with_reducible refine Yk (N := 6) rfl ?_); (try (refine gate_guard (by rfl) ?_; dsimp only)); refine Yo ?hg (N := 6) ?hd (cs := #[.bool false, .slice none 0 0, .slice none 0 0]) (t := 50) ?hr ?_; (case hd => rfl); (case hg => rfl); (case hr => exact Qa9); intro gb1173 hg w26 hbox hb; have BK1173 := Yt.mk (hbox); have GW1173 := Yt.mk ((by rw [hg]; exact (Zk (Qa0)) : w.heap.size ≤ gb1173)); have GE1173 := Yt.mk ((by rw [hg]; exact (Zk (Qa0)) : w.heap.size ≤ gb1173)); replace HB := Yt.mk (Zm (Qa0) hb); clear hb hbox hg) | ((with_reducible refine Zr (f := 46) rfl ?_); refine Yg (some 12) rfl rfl Try.func46 Qa8 rfl #[.slice A1 l1.length c1] rfl Qa2 ?_; (with_reducible refine (r1_Trim.calls k _ _ l1 t1174 _ ?side1 ?side2 A4.out).mono ?_); (case side1 => exact Qe11 (Kd.Ys HR1.out HB.out)); (case side2 => exact HC1.out); rintro e w27 ⟨v1175, rfl, ho0, hb⟩; refine ⟨_, rfl, ?_⟩; have HO1176 := Yt.mk (Kd.Yb ho0 (Zk (Qa0))); replace BK1173 := Yt.mk (Zq (g := gb1173) (o := .cells #[.bool false, .slice none 0 0, .slice none 0 0] 50 (0, 0)) (Qr12 BK1173.out) hb); replace HB := Yt.mk (Zm (Qa0) hb); (try clear hb); (try clear ho0)) | ((with_reducible refine Zr (f := 46) rfl ?_); refine Yg (some 14) rfl rfl Try.func46 Qa8 rfl #[.slice A2 l2.length c2] rfl Qa2 ?_; (with_reducible refine (r1_Trim.calls k _ _ l2 t1177 _ ?side1 ?side2 A5.out).mono ?_); (case side1 => exact Qe11 (Kd.Ys HR2.out HB.out)); (case side2 => exact HC2.out); rintro e w28 ⟨v1178, rfl, ho0, hb⟩; refine ⟨_, rfl, ?_⟩; have HO1179 := Yt.mk (Kd.Yb (Kd.Ya ho0 (Kd.R_lt (Qr1 HO1176.out))) (Zk (Qa0))); replace HO1176 := Yt.mk (Kd.Yf (Qr1 HO1176.out) (Kd.Zw ho0) hb); replace BK1173 := Yt.mk (Zq (g := gb1173) (o := .cells #[.bool false, .slice none 0 0, .slice none 0 0] 50 (0, 0)) (Qr12 BK1173.out) hb); replace HB := Yt.mk (Zm (Qa0) hb); (try clear hb); (try clear ho0); obtain ⟨Ao29, co29, eo29⟩ := Kd.Zx HO1179.out; subst eo29; obtain ⟨Ao30, co30, eo30⟩ := Kd.Zx HO1176.out; subst eo30) | ((with_reducible refine Zr (f := 41) rfl ?_); refine Yg (some 26) rfl rfl Try.func41 Qa8 rfl #[.slice Ao30 t1174.length co30, .slice Ao29 t1177.length co29] rfl Qa2 ?_; (with_reducible refine (r1_Common.calls k _ _ t1174 _ _ t1177 t1183 _ ?side1 ?side2 ?side3 ?side4 A22.out).mono ?_); (case side1 => exact Qe11 (Kd.Zs HO1176.out).2.2); (case side2 => exact (Kd.Zs HO1176.out).2.1); (case side3 => exact Qe11 (Kd.Zs HO1179.out).2.2); (case side4 => exact (Kd.Zs HO1179.out).2.1); rintro e w31 ⟨v1184, rfl, ho0, hb⟩; refine ⟨_, rfl, ?_⟩; have HO1185 := Yt.mk (Kd.Yb (Kd.Ya (Kd.Ya ho0 (Kd.R_lt (Qr1 HO1176.out))) (Kd.R_lt (Qr1 HO1179.out))) (Zk (Qa0))); replace HO1176 := Yt.mk (Kd.Yf (Qr1 HO1176.out) (Kd.Zw ho0) hb); replace HO1179 := Yt.mk (Kd.Yf (Qr1 HO1179.out) (Kd.Zw ho0) hb); replace BK1173 := Yt.mk (Zq (g := gb1173) (o := .cells #[.bool false, .slice none 0 0, .slice none 0 0] 50 (0, 0)) (Qr12 BK1173.out) hb); replace HB := Yt.mk (Zm (Qa0) hb); (try clear hb); (try clear ho0); obtain ⟨Ao32, co32, eo32⟩ := Kd.Zx HO1185.out; subst eo32) | ((with_reducible refine Zr (f := 28) rfl ?_); refine Yg (some 30) rfl rfl Try.func28 Qa8 rfl #[.slice Ao30 t1174.length co30, .slice Ao32 t1183.length co32] rfl Qa2 ?_; (with_reducible refine (r1_Divide.calls k _ _ t1174 _ _ t1183 t1186 t1187 _ ?side1 ?side2 ?side3 ?side4 A23.out).mono ?_); (case side1 => exact Qe11 (Kd.Zs HO1176.out).2.2); (case side2 => exact (Kd.Zs HO1176.out).2.1); (case side3 => exact Qe11 (Kd.Zs HO1185.out).2.2); (case side4 => exact (Kd.Zs HO1185.out).2.1); rintro e w33 ⟨v1188, v1190, rfl, ho0, ho1, hb⟩; refine ⟨_, rfl, ?_⟩; have HO1189 := Yt.mk (Kd.Yb (Kd.Ya (Kd.Ya (Kd.Ya ho0 (Kd.R_lt (Qr1 HO1176.out))) (Kd.R_lt (Qr1 HO1179.out))) (Kd.R_lt (Qr1 HO1185.out))) (Zk (Qa0))); have HO1191 := Yt.mk (Kd.Yb (Kd.Ya (Kd.Ya (Kd.Ya ho1 (Kd.R_lt (Qr1 HO1176.out))) (Kd.R_lt (Qr1 HO1179.out))) (Kd.R_lt (Qr1 HO1185.out))) (Zk (Qa0))); replace HO1176 := Yt.mk (Kd.Zv (Kd.Yl (Kd.Yl (Kd.R_old (Qr1 HO1176.out) hb) (Kd.Zw ho0)) (Kd.Zw ho1)) (fun _ h_ => h_.1)); replace HO1179 := Yt.mk (Kd.Zv (Kd.Yl (Kd.Yl (Kd.R_old (Qr1 HO1179.out) hb) (Kd.Zw ho0)) (Kd.Zw ho1)) (fun _ h_ => h_.1)); replace HO1185 := Yt.mk (Kd.Zv (Kd.Yl (Kd.Yl (Kd.R_old (Qr1 HO1185.out) hb) (Kd.Zw ho0)) (Kd.Zw ho1)) (fun _ h_ => h_.1)); replace BK1173 := Yt.mk (Zq (g := gb1173) (o := .cells #[.bool false, .slice none 0 0, .slice none 0 0] 50 (0, 0)) (Qr12 BK1173.out) hb); replace HB := Yt.mk (Zm (Qa0) hb); (try clear hb); (try clear ho0); (try clear ho1)) | ((with_reducible refine Zr (f := 28) rfl ?_); refine Yg (some 36) rfl rfl Try.func28 Qa8 rfl #[.slice Ao29 t1177.length co29, .slice Ao32 t1183.length co32] rfl Qa2 ?_; (with_reducible refine (r1_Divide.calls k _ _ t1177 _ _ t1183 t1192 t1193 _ ?side1 ?side2 ?side3 ?side4 A24.out).mono ?_); (case side1 => exact Qe11 (Kd.Zs HO1179.out).2.2); (case side2 => exact (Kd.Zs HO1179.out).2.1); (case side3 => exact Qe11 (Kd.Zs HO1185.out).2.2); (case side4 => exact (Kd.Zs HO1185.out).2.1); rintro e w34 ⟨v1194, v1196, rfl, ho0, ho1, hb⟩; refine ⟨_, rfl, ?_⟩; have HO1195 := Yt.mk (Kd.Yb (Kd.Ya (Kd.Ya (Kd.Ya (Kd.Ya (Kd.Ya ho0 (Kd.R_lt (Qr1 HO1176.out))) (Kd.R_lt (Qr1 HO1179.out))) (Kd.R_lt (Qr1 HO1185.out))) (Kd.R_lt (Qr1 HO1189.out))) (Kd.R_lt (Qr1 HO1191.out))) (Zk (Qa0))); have HO1197 := Yt.mk (Kd.Yb (Kd.Ya (Kd.Ya (Kd.Ya (Kd.Ya (Kd.Ya ho1 (Kd.R_lt (Qr1 HO1176.out))) (Kd.R_lt (Qr1 HO1179.out))) (Kd.R_lt (Qr1 HO1185.out))) (Kd.R_lt (Qr1 HO1189.out))) (Kd.R_lt (Qr1 HO1191.out))) (Zk (Qa0))); replace HO1176 := Yt.mk (Kd.Zv (Kd.Yl (Kd.Yl (Kd.R_old (Qr1 HO1176.out) hb) (Kd.Zw ho0)) (Kd.Zw ho1)) (fun _ h_ => h_.1)); replace HO1179 := Yt.mk (Kd.Zv (Kd.Yl (Kd.Yl (Kd.R_old (Qr1 HO1179.out) hb) (Kd.Zw ho0)) (Kd.Zw ho1)) (fun _ h_ => h_.1)); replace HO1185 := Yt.mk (Kd.Zv (Kd.Yl (Kd.Yl (Kd.R_old (Qr1 HO1185.out) hb) (Kd.Zw ho0)) (Kd.Zw ho1)) (fun _ h_ => h_.1)); replace HO1189 := Yt.mk (Kd.Zv (Kd.Yl (Kd.Yl (Kd.R_old (Qr1 HO1189.out) hb) (Kd.Zw ho0)) (Kd.Zw ho1)) (fun _ h_ => h_.1)); replace HO1191 := Yt.mk (Kd.Zv (Kd.Yl (Kd.Yl (Kd.R_old (Qr1 HO1191.out) hb) (Kd.Zw ho0)) (Kd.Zw ho1)) (fun _ h_ => h_.1)); replace BK1173 := Yt.mk (Zq (g := gb1173) (o := .cells #[.bool false, .slice none 0 0, .slice none 0 0] 50 (0, 0)) (Qr12 BK1173.out) hb); replace HB := Yt.mk (Zm (Qa0) hb); (try clear hb); (try clear ho0); (try clear ho1); obtain ⟨Ao35, co35, eo35⟩ := Kd.Zx HO1189.out; subst eo35; have hcz36_0 : w34.cell? ⟨gb1173, 0, none⟩ = some (.bool false) := (Zl BK1173.out 0).trans rfl; have hcz36_1 : w34.cell? ⟨gb1173, 1, none⟩ = some (.slice none 0 0) := (Zl BK1173.out 1).trans rfl; have hcz36_2 : w34.cell? ⟨gb1173, 2, none⟩ = some (.slice none 0 0) := (Zl BK1173.out 2).trans rfl; have hfz36_0 := Zn BK1173.out 0; have hfz36_1 := Zn BK1173.out 1; have hfz36_2 := Zn BK1173.out 2))
  refine bodyPost_ret (results_ct rfl _ _ gb1173 50 #[.bool false, .slice none 0 0, .slice none 0 0] (0, 0) _ rfl (by (with_reducible repeat (first | refine Zg ?_ _ | refine Zi ?_ | refine Zh ?_ _)); refine Ym (cs := #[.bool false, .slice none 0 0, .slice none 0 0]) ?_ 2 _ rfl; (with_reducible repeat (first | refine Zg ?_ _ | refine Zi ?_ | refine Zh ?_ _)); refine Ym (cs := #[.bool false, .slice none 0 0, .slice none 0 0]) ?_ 1 _ rfl; (with_reducible repeat (first | refine Zg ?_ _ | refine Zi ?_ | refine Zh ?_ _)); refine Ym (cs := #[.bool false, .slice none 0 0, .slice none 0 0]) ?_ 0 _ rfl; (with_reducible repeat (first | refine Zg ?_ _ | refine Zi ?_ | refine Zh ?_ _)); exact BK1173.out) Try.underlying50 rfl Qa8) rfl ?_
  exact ⟨_, _, Qa4, by first | exact Kd.R_nil _ _ _ _ _ | exact Kd.N_nil _ _ _ _ _ | exact Kd.V_nil _ _ _ _ _ | exact Kd.Q_nil _ _ _ _ _ | exact Kd.S_nil _ _ _ _ _, by first | exact Kd.R_nil _ _ _ _ _ | exact Kd.N_nil _ _ _ _ _ | exact Kd.V_nil _ _ _ _ _ | exact Kd.Q_nil _ _ _ _ _ | exact Kd.S_nil _ _ _ _ _, Qa0⟩
 rw [if_neg c25] at H
 have c25b0 : decide (16 < (t1186.length : Int)) = false := decide_eq_false c25
 have c25b1 : decide (16 < t1186.length) = false := decide_eq_false (by omega)
 clear c25
 by_cases c37 : (t1192.length : Int) > 16
 ·rw [if_pos c37] at H
  have c37b0 : decide (16 < (t1192.length : Int)) = true := decide_eq_true c37
  have c37b1 : decide (16 < t1192.length) = true := decide_eq_true (by omega)
  clear c37
  simp only [Option.some.injEq, Prod.mk.injEq] at H
  obtain ⟨rfl, rfl, rfl, rfl⟩ := H
  go_enter Try.func49, Try.ntmps49
  go_wp2_with (first | ((with_reducible refine Yk (N := 6) rfl ?_); (try (refine gate_guard (by rfl) ?_; dsimp only)); refine Yo ?hg (N := 6) ?hd (cs := #[.bool false, .slice none 0 0, .slice none 0 0]) (t := 50) ?hr ?_; (case hd => rfl); (case hg => rfl); (case hr => exact Qa9); intro gb1173 hg w38 hbox hb; have BK1173 := Yt.mk (hbox); have GW1173 := Yt.mk ((by rw [hg]; exact (Zk (Qa0)) : w.heap.size ≤ gb1173)); have GE1173 := Yt.mk ((by rw [hg]; exact (Zk (Qa0)) : w.heap.size ≤ gb1173)); replace HB := Yt.mk (Zm (Qa0) hb); clear hb hbox hg) | ((with_reducible refine Zr (f := 46) rfl ?_); refine Yg (some 12) rfl rfl Try.func46 Qa8 rfl #[.slice A1 l1.length c1] rfl Qa2 ?_; (with_reducible refine (r1_Trim.calls k _ _ l1 t1174 _ ?side1 ?side2 A4.out).mono ?_); (case side1 => exact Qe11 (Kd.Ys HR1.out HB.out)); (case side2 => exact HC1.out); rintro e w39 ⟨v1175, rfl, ho0, hb⟩; refine ⟨_, rfl, ?_⟩; have HO1176 := Yt.mk (Kd.Yb ho0 (Zk (Qa0))); replace BK1173 := Yt.mk (Zq (g := gb1173) (o := .cells #[.bool false, .slice none 0 0, .slice none 0 0] 50 (0, 0)) (Qr12 BK1173.out) hb); replace HB := Yt.mk (Zm (Qa0) hb); (try clear hb); (try clear ho0)) | ((with_reducible refine Zr (f := 46) rfl ?_); refine Yg (some 14) rfl rfl Try.func46 Qa8 rfl #[.slice A2 l2.length c2] rfl Qa2 ?_; (with_reducible refine (r1_Trim.calls k _ _ l2 t1177 _ ?side1 ?side2 A5.out).mono ?_); (case side1 => exact Qe11 (Kd.Ys HR2.out HB.out)); (case side2 => exact HC2.out); rintro e w40 ⟨v1178, rfl, ho0, hb⟩; refine ⟨_, rfl, ?_⟩; have HO1179 := Yt.mk (Kd.Yb (Kd.Ya ho0 (Kd.R_lt (Qr1 HO1176.out))) (Zk (Qa0))); replace HO1176 := Yt.mk (Kd.Yf (Qr1 HO1176.out) (Kd.Zw ho0) hb); replace BK1173 := Yt.mk (Zq (g := gb1173) (o := .cells #[.bool false, .slice none 0 0, .slice none 0 0] 50 (0, 0)) (Qr12 BK1173.out) hb); replace HB := Yt.mk (Zm (Qa0) hb); (try clear hb); (try clear ho0); obtain ⟨Ao41, co41, eo41⟩ := Kd.Zx HO1179.out; subst eo41; obtain ⟨Ao42, co42, eo42⟩ := Kd.Zx HO1176.out; subst eo42) | ((with_reducible refine Zr (f := 41) rfl ?_); refine Yg (some 26) rfl rfl Try.func41 Qa8 rfl #[.slice Ao42 t1174.length co42, .slice Ao41 t1177.length co41] rfl Qa2 ?_; (with_reducible refine (r1_Common.calls k _ _ t1174 _ _ t1177 t1183 _ ?side1 ?side2 ?side3 ?side4 A22.out).mono ?_); (case side1 => exact Qe11 (Kd.Zs HO1176.out).2.2); (case side2 => exact (Kd.Zs HO1176.out).2.1); (case side3 => exact Qe11 (Kd.Zs HO1179.out).2.2); (case side4 => exact (Kd.Zs HO1179.out).2.1); rintro e w43 ⟨v1184, rfl, ho0, hb⟩; refine ⟨_, rfl, ?_⟩; have HO1185 := Yt.mk (Kd.Yb (Kd.Ya (Kd.Ya ho0 (Kd.R_lt (Qr1 HO1176.out))) (Kd.R_lt (Qr1 HO1179.out))) (Zk (Qa0))); replace HO1176 := Yt.mk (Kd.Yf (Qr1 HO1176.out) (Kd.Zw ho0) hb); replace HO1179 := Yt.mk (Kd.Yf (Qr1 HO1179.out) (Kd.Zw ho0) hb); replace BK1173 := Yt.mk (Zq (g := gb1173) (o := .cells #[.bool false, .slice none 0 0, .slice none 0 0] 50 (0, 0)) (Qr12 BK1173.out) hb); replace HB := Yt.mk (Zm (Qa0) hb); (try clear hb); (try clear ho0); obtain ⟨Ao44, co44, eo44⟩ := Kd.Zx HO1185.out; subst eo44) | ((with_reducible refine Zr (f := 28) rfl ?_); refine Yg (some 30) rfl rfl Try.func28 Qa8 rfl #[.slice Ao42 t1174.length co42, .slice Ao44 t1183.length co44] rfl Qa2 ?_; (with_reducible refine (r1_Divide.calls k _ _ t1174 _ _ t1183 t1186 t1187 _ ?side1 ?side2 ?side3 ?side4 A23.out).mono ?_); (case side1 => exact Qe11 (Kd.Zs HO1176.out).2.2); (case side2 => exact (Kd.Zs HO1176.out).2.1); (case side3 => exact Qe11 (Kd.Zs HO1185.out).2.2); (case side4 => exact (Kd.Zs HO1185.out).2.1); rintro e w45 ⟨v1188, v1190, rfl, ho0, ho1, hb⟩; refine ⟨_, rfl, ?_⟩; have HO1189 := Yt.mk (Kd.Yb (Kd.Ya (Kd.Ya (Kd.Ya ho0 (Kd.R_lt (Qr1 HO1176.out))) (Kd.R_lt (Qr1 HO1179.out))) (Kd.R_lt (Qr1 HO1185.out))) (Zk (Qa0))); have HO1191 := Yt.mk (Kd.Yb (Kd.Ya (Kd.Ya (Kd.Ya ho1 (Kd.R_lt (Qr1 HO1176.out))) (Kd.R_lt (Qr1 HO1179.out))) (Kd.R_lt (Qr1 HO1185.out))) (Zk (Qa0))); replace HO1176 := Yt.mk (Kd.Zv (Kd.Yl (Kd.Yl (Kd.R_old (Qr1 HO1176.out) hb) (Kd.Zw ho0)) (Kd.Zw ho1)) (fun _ h_ => h_.1)); replace HO1179 := Yt.mk (Kd.Zv (Kd.Yl (Kd.Yl (Kd.R_old (Qr1 HO1179.out) hb) (Kd.Zw ho0)) (Kd.Zw ho1)) (fun _ h_ => h_.1)); replace HO1185 := Yt.mk (Kd.Zv (Kd.Yl (Kd.Yl (Kd.R_old (Qr1 HO1185.out) hb) (Kd.Zw ho0)) (Kd.Zw ho1)) (fun _ h_ => h_.1)); replace BK1173 := Yt.mk (Zq (g := gb1173) (o := .cells #[.bool false, .slice none 0 0, .slice none 0 0] 50 (0, 0)) (Qr12 BK1173.out) hb); replace HB := Yt.mk (Zm (Qa0) hb); (try clear hb); (try clear ho0); (try clear ho1)) | ((with_reducible refine Zr (f := 28) rfl ?_); refine Yg (some 36) rfl rfl Try.func28 Qa8 rfl #[.slice Ao41 t1177.length co41, .slice Ao44 t1183.length co44] rfl Qa2 ?_; (with_reducible refine (r1_Divide.calls k _ _ t1177 _ _ t1183 t1192 t1193 _ ?side1 ?side2 ?side3 ?side4 A24.out).mono ?_); (case side1 => exact Qe11 (Kd.Zs HO1179.out).2.2); (case side2 => exact (Kd.Zs HO1179.out).2.1); (case side3 => exact Qe11 (Kd.Zs HO1185.out).2.2); (case side4 => exact (Kd.Zs HO1185.out).2.1); rintro e w46 ⟨v1194, v1196, rfl, ho0, ho1, hb⟩; refine ⟨_, rfl, ?_⟩; have HO1195 := Yt.mk (Kd.Yb (Kd.Ya (Kd.Ya (Kd.Ya (Kd.Ya (Kd.Ya ho0 (Kd.R_lt (Qr1 HO1176.out))) (Kd.R_lt (Qr1 HO1179.out))) (Kd.R_lt (Qr1 HO1185.out))) (Kd.R_lt (Qr1 HO1189.out))) (Kd.R_lt (Qr1 HO1191.out))) (Zk (Qa0))); have HO1197 := Yt.mk (Kd.Yb (Kd.Ya (Kd.Ya (Kd.Ya (Kd.Ya (Kd.Ya ho1 (Kd.R_lt (Qr1 HO1176.out))) (Kd.R_lt (Qr1 HO1179.out))) (Kd.R_lt (Qr1 HO1185.out))) (Kd.R_lt (Qr1 HO1189.out))) (Kd.R_lt (Qr1 HO1191.out))) (Zk (Qa0))); replace HO1176 := Yt.mk (Kd.Zv (Kd.Yl (Kd.Yl (Kd.R_old (Qr1 HO1176.out) hb) (Kd.Zw ho0)) (Kd.Zw ho1)) (fun _ h_ => h_.1)); replace HO1179 := Yt.mk (Kd.Zv (Kd.Yl (Kd.Yl (Kd.R_old (Qr1 HO1179.out) hb) (Kd.Zw ho0)) (Kd.Zw ho1)) (fun _ h_ => h_.1)); replace HO1185 := Yt.mk (Kd.Zv (Kd.Yl (Kd.Yl (Kd.R_old (Qr1 HO1185.out) hb) (Kd.Zw ho0)) (Kd.Zw ho1)) (fun _ h_ => h_.1)); replace HO1189 := Yt.mk (Kd.Zv (Kd.Yl (Kd.Yl (Kd.R_old (Qr1 HO1189.out) hb) (Kd.Zw ho0)) (Kd.Zw ho1)) (fun _ h_ => h_.1)); replace HO1191 := Yt.mk (Kd.Zv (Kd.Yl (Kd.Yl (Kd.R_old (Qr1 HO1191.out) hb) (Kd.Zw ho0)) (Kd.Zw ho1)) (fun _ h_ => h_.1)); replace BK1173 := Yt.mk (Zq (g := gb1173) (o := .cells #[.bool false, .slice none 0 0, .slice none 0 0] 50 (0, 0)) (Qr12 BK1173.out) hb); replace HB := Yt.mk (Zm (Qa0) hb); (try clear hb); (try clear ho0); (try clear ho1); obtain ⟨Ao47, co47, eo47⟩ := Kd.Zx HO1189.out; subst eo47; obtain ⟨Ao48, co48, eo48⟩ := Kd.Zx HO1195.out; subst eo48; have hcz49_0 : w46.cell? ⟨gb1173, 0, none⟩ = some (.bool false) := (Zl BK1173.out 0).trans rfl; have hcz49_1 : w46.cell? ⟨gb1173, 1, none⟩ = some (.slice none 0 0) := (Zl BK1173.out 1).trans rfl; have hcz49_2 : w46.cell? ⟨gb1173, 2, none⟩ = some (.slice none 0 0) := (Zl BK1173.out 2).trans rfl; have hfz49_0 := Zn BK1173.out 0; have hfz49_1 := Zn BK1173.out 1; have hfz49_2 := Zn BK1173.out 2))
  refine bodyPost_ret (results_ct rfl _ _ gb1173 50 #[.bool false, .slice none 0 0, .slice none 0 0] (0, 0) _ rfl (by (with_reducible repeat (first | refine Zg ?_ _ | refine Zi ?_ | refine Zh ?_ _)); refine Ym (cs := #[.bool false, .slice none 0 0, .slice none 0 0]) ?_ 2 _ rfl; (with_reducible repeat (first | refine Zg ?_ _ | refine Zi ?_ | refine Zh ?_ _)); refine Ym (cs := #[.bool false, .slice none 0 0, .slice none 0 0]) ?_ 1 _ rfl; (with_reducible repeat (first | refine Zg ?_ _ | refine Zi ?_ | refine Zh ?_ _)); refine Ym (cs := #[.bool false, .slice none 0 0, .slice none 0 0]) ?_ 0 _ rfl; (with_reducible repeat (first | refine Zg ?_ _ | refine Zi ?_ | refine Zh ?_ _)); exact BK1173.out) Try.underlying50 rfl Qa8) rfl ?_
  exact ⟨_, _, Qa4, by first | exact Kd.R_nil _ _ _ _ _ | exact Kd.N_nil _ _ _ _ _ | exact Kd.V_nil _ _ _ _ _ | exact Kd.Q_nil _ _ _ _ _ | exact Kd.S_nil _ _ _ _ _, by first | exact Kd.R_nil _ _ _ _ _ | exact Kd.N_nil _ _ _ _ _ | exact Kd.V_nil _ _ _ _ _ | exact Kd.Q_nil _ _ _ _ _ | exact Kd.S_nil _ _ _ _ _, Qa0⟩
 rw [if_neg c37] at H
 have c37b0 : decide (16 < (t1192.length : Int)) = false := decide_eq_false c37
 have c37b1 : decide (16 < t1192.length) = false := decide_eq_false (by omega)
 clear c37
 simp only [Option.some.injEq, Prod.mk.injEq] at H
 obtain ⟨rfl, rfl, rfl, rfl⟩ := H
 go_enter Try.func49, Try.ntmps49
 go_wp2_with (first | ((with_reducible refine Yk (N := 6) rfl ?_); (try (refine gate_guard (by rfl) ?_; dsimp only)); refine Yo ?hg (N := 6) ?hd (cs := #[.bool false, .slice none 0 0, .slice none 0 0]) (t := 50) ?hr ?_; (case hd => rfl); (case hg => rfl); (case hr => exact Qa9); intro gb1173 hg w50 hbox hb; have BK1173 := Yt.mk (hbox); have GW1173 := Yt.mk ((by rw [hg]; exact (Zk (Qa0)) : w.heap.size ≤ gb1173)); have GE1173 := Yt.mk ((by rw [hg]; exact (Zk (Qa0)) : w.heap.size ≤ gb1173)); replace HB := Yt.mk (Zm (Qa0) hb); clear hb hbox hg) | ((with_reducible refine Zr (f := 46) rfl ?_); refine Yg (some 12) rfl rfl Try.func46 Qa8 rfl #[.slice A1 l1.length c1] rfl Qa2 ?_; (with_reducible refine (r1_Trim.calls k _ _ l1 t1174 _ ?side1 ?side2 A4.out).mono ?_); (case side1 => exact Qe11 (Kd.Ys HR1.out HB.out)); (case side2 => exact HC1.out); rintro e w51 ⟨v1175, rfl, ho0, hb⟩; refine ⟨_, rfl, ?_⟩; have HO1176 := Yt.mk (Kd.Yb ho0 (Zk (Qa0))); replace BK1173 := Yt.mk (Zq (g := gb1173) (o := .cells #[.bool false, .slice none 0 0, .slice none 0 0] 50 (0, 0)) (Qr12 BK1173.out) hb); replace HB := Yt.mk (Zm (Qa0) hb); (try clear hb); (try clear ho0)) | ((with_reducible refine Zr (f := 46) rfl ?_); refine Yg (some 14) rfl rfl Try.func46 Qa8 rfl #[.slice A2 l2.length c2] rfl Qa2 ?_; (with_reducible refine (r1_Trim.calls k _ _ l2 t1177 _ ?side1 ?side2 A5.out).mono ?_); (case side1 => exact Qe11 (Kd.Ys HR2.out HB.out)); (case side2 => exact HC2.out); rintro e w52 ⟨v1178, rfl, ho0, hb⟩; refine ⟨_, rfl, ?_⟩; have HO1179 := Yt.mk (Kd.Yb (Kd.Ya ho0 (Kd.R_lt (Qr1 HO1176.out))) (Zk (Qa0))); replace HO1176 := Yt.mk (Kd.Yf (Qr1 HO1176.out) (Kd.Zw ho0) hb); replace BK1173 := Yt.mk (Zq (g := gb1173) (o := .cells #[.bool false, .slice none 0 0, .slice none 0 0] 50 (0, 0)) (Qr12 BK1173.out) hb); replace HB := Yt.mk (Zm (Qa0) hb); (try clear hb); (try clear ho0); obtain ⟨Ao53, co53, eo53⟩ := Kd.Zx HO1179.out; subst eo53; obtain ⟨Ao54, co54, eo54⟩ := Kd.Zx HO1176.out; subst eo54) | ((with_reducible refine Zr (f := 41) rfl ?_); refine Yg (some 26) rfl rfl Try.func41 Qa8 rfl #[.slice Ao54 t1174.length co54, .slice Ao53 t1177.length co53] rfl Qa2 ?_; (with_reducible refine (r1_Common.calls k _ _ t1174 _ _ t1177 t1183 _ ?side1 ?side2 ?side3 ?side4 A22.out).mono ?_); (case side1 => exact Qe11 (Kd.Zs HO1176.out).2.2); (case side2 => exact (Kd.Zs HO1176.out).2.1); (case side3 => exact Qe11 (Kd.Zs HO1179.out).2.2); (case side4 => exact (Kd.Zs HO1179.out).2.1); rintro e w55 ⟨v1184, rfl, ho0, hb⟩; refine ⟨_, rfl, ?_⟩; have HO1185 := Yt.mk (Kd.Yb (Kd.Ya (Kd.Ya ho0 (Kd.R_lt (Qr1 HO1176.out))) (Kd.R_lt (Qr1 HO1179.out))) (Zk (Qa0))); replace HO1176 := Yt.mk (Kd.Yf (Qr1 HO1176.out) (Kd.Zw ho0) hb); replace HO1179 := Yt.mk (Kd.Yf (Qr1 HO1179.out) (Kd.Zw ho0) hb); replace BK1173 := Yt.mk (Zq (g := gb1173) (o := .cells #[.bool false, .slice none 0 0, .slice none 0 0] 50 (0, 0)) (Qr12 BK1173.out) hb); replace HB := Yt.mk (Zm (Qa0) hb); (try clear hb); (try clear ho0); obtain ⟨Ao56, co56, eo56⟩ := Kd.Zx HO1185.out; subst eo56) | ((with_reducible refine Zr (f := 28) rfl ?_); refine Yg (some 30) rfl rfl Try.func28 Qa8 rfl #[.slice Ao54 t1174.length co54, .slice Ao56 t1183.length co56] rfl Qa2 ?_; (with_reducible refine (r1_Divide.calls k _ _ t1174 _ _ t1183 t1186 t1187 _ ?side1 ?side2 ?side3 ?side4 A23.out).mono ?_); (case side1 => exact Qe11 (Kd.Zs HO1176.out).2.2); (case side2 => exact (Kd.Zs HO1176.out).2.1); (case side3 => exact Qe11 (Kd.Zs HO1185.out).2.2); (case side4 => exact (Kd.Zs HO1185.out).2.1); rintro e w57 ⟨v1188, v1190, rfl, ho0, ho1, hb⟩; refine ⟨_, rfl, ?_⟩; have HO1189 := Yt.mk (Kd.Yb (Kd.Ya (Kd.Ya (Kd.Ya ho0 (Kd.R_lt (Qr1 HO1176.out))) (Kd.R_lt (Qr1 HO1179.out))) (Kd.R_lt (Qr1 HO1185.out))) (Zk (Qa0))); have HO1191 := Yt.mk (Kd.Yb (Kd.Ya (Kd.Ya (Kd.Ya ho1 (Kd.R_lt (Qr1 HO1176.out))) (Kd.R_lt (Qr1 HO1179.out))) (Kd.R_lt (Qr1 HO1185.out))) (Zk (Qa0))); replace HO1176 := Yt.mk (Kd.Zv (Kd.Yl (Kd.Yl (Kd.R_old (Qr1 HO1176.out) hb) (Kd.Zw ho0)) (Kd.Zw ho1)) (fun _ h_ => h_.1)); replace HO1179 := Yt.mk (Kd.Zv (Kd.Yl (Kd.Yl (Kd.R_old (Qr1 HO1179.out) hb) (Kd.Zw ho0)) (Kd.Zw ho1)) (fun _ h_ => h_.1)); replace HO1185 := Yt.mk (Kd.Zv (Kd.Yl (Kd.Yl (Kd.R_old (Qr1 HO1185.out) hb) (Kd.Zw ho0)) (Kd.Zw ho1)) (fun _ h_ => h_.1)); replace BK1173 := Yt.mk (Zq (g := gb1173) (o := .cells #[.bool false, .slice none 0 0, .slice none 0 0] 50 (0, 0)) (Qr12 BK1173.out) hb); replace HB := Yt.mk (Zm (Qa0) hb); (try clear hb); (try clear ho0); (try clear ho1)) | ((with_reducible refine Zr (f := 28) rfl ?_); refine Yg (some 36) rfl rfl Try.func28 Qa8 rfl #[.slice Ao53 t1177.length co53, .slice Ao56 t1183.length co56] rfl Qa2 ?_; (with_reducible refine (r1_Divide.calls k _ _ t1177 _ _ t1183 t1192 t1193 _ ?side1 ?side2 ?side3 ?side4 A24.out).mono ?_); (case side1 => exact Qe11 (Kd.Zs HO1179.out).2.2); (case side2 => exact (Kd.Zs HO1179.out).2.1); (case side3 => exact Qe11 (Kd.Zs HO1185.out).2.2); (case side4 => exact (Kd.Zs HO1185.out).2.1); rintro e w58 ⟨v1194, v1196, rfl, ho0, ho1, hb⟩; refine ⟨_, rfl, ?_⟩; have HO1195 := Yt.mk (Kd.Yb (Kd.Ya (Kd.Ya (Kd.Ya (Kd.Ya (Kd.Ya ho0 (Kd.R_lt (Qr1 HO1176.out))) (Kd.R_lt (Qr1 HO1179.out))) (Kd.R_lt (Qr1 HO1185.out))) (Kd.R_lt (Qr1 HO1189.out))) (Kd.R_lt (Qr1 HO1191.out))) (Zk (Qa0))); have HO1197 := Yt.mk (Kd.Yb (Kd.Ya (Kd.Ya (Kd.Ya (Kd.Ya (Kd.Ya ho1 (Kd.R_lt (Qr1 HO1176.out))) (Kd.R_lt (Qr1 HO1179.out))) (Kd.R_lt (Qr1 HO1185.out))) (Kd.R_lt (Qr1 HO1189.out))) (Kd.R_lt (Qr1 HO1191.out))) (Zk (Qa0))); replace HO1176 := Yt.mk (Kd.Zv (Kd.Yl (Kd.Yl (Kd.R_old (Qr1 HO1176.out) hb) (Kd.Zw ho0)) (Kd.Zw ho1)) (fun _ h_ => h_.1)); replace HO1179 := Yt.mk (Kd.Zv (Kd.Yl (Kd.Yl (Kd.R_old (Qr1 HO1179.out) hb) (Kd.Zw ho0)) (Kd.Zw ho1)) (fun _ h_ => h_.1)); replace HO1185 := Yt.mk (Kd.Zv (Kd.Yl (Kd.Yl (Kd.R_old (Qr1 HO1185.out) hb) (Kd.Zw ho0)) (Kd.Zw ho1)) (fun _ h_ => h_.1)); replace HO1189 := Yt.mk (Kd.Zv (Kd.Yl (Kd.Yl (Kd.R_old (Qr1 HO1189.out) hb) (Kd.Zw ho0)) (Kd.Zw ho1)) (fun _ h_ => h_.1)); replace HO1191 := Yt.mk (Kd.Zv (Kd.Yl (Kd.Yl (Kd.R_old (Qr1 HO1191.out) hb) (Kd.Zw ho0)) (Kd.Zw ho1)) (fun _ h_ => h_.1)); replace BK1173 := Yt.mk (Zq (g := gb1173) (o := .cells #[.bool false, .slice none 0 0, .slice none 0 0] 50 (0, 0)) (Qr12 BK1173.out) hb); replace HB := Yt.mk (Zm (Qa0) hb); (try clear hb); (try clear ho0); (try clear ho1); obtain ⟨Ao59, co59, eo59⟩ := Kd.Zx HO1189.out; subst eo59; obtain ⟨Ao60, co60, eo60⟩ := Kd.Zx HO1195.out; subst eo60; have hcz61_0 : w58.cell? ⟨gb1173, 0, none⟩ = some (.bool false) := (Zl BK1173.out 0).trans rfl; have hcz61_1 : w58.cell? ⟨gb1173, 1, none⟩ = some (.slice none 0 0) := (Zl BK1173.out 1).trans rfl; have hcz61_2 : w58.cell? ⟨gb1173, 2, none⟩ = some (.slice none 0 0) := (Zl BK1173.out 2).trans rfl; have hfz61_0 := Zn BK1173.out 0; have hfz61_1 := Zn BK1173.out 1; have hfz61_2 := Zn BK1173.out 2))
 refine bodyPost_ret (results_ct rfl _ _ gb1173 50 #[.bool a0, .slice Ao59 t1186.length co59, .slice Ao60 t1192.length co60] (0, 0) _ rfl (by (with_reducible repeat (first | refine Zg ?_ _ | refine Zi ?_ | refine Zh ?_ _)); refine Ym (cs := #[.bool a0, .slice Ao59 t1186.length co59, .slice none 0 0]) ?_ 2 _ rfl; (with_reducible repeat (first | refine Zg ?_ _ | refine Zi ?_ | refine Zh ?_ _)); refine Ym (cs := #[.bool a0, .slice none 0 0, .slice none 0 0]) ?_ 1 _ rfl; (with_reducible repeat (first | refine Zg ?_ _ | refine Zi ?_ | refine Zh ?_ _)); refine Ym (cs := #[.bool false, .slice none 0 0, .slice none 0 0]) ?_ 0 _ rfl; (with_reducible repeat (first | refine Zg ?_ _ | refine Zi ?_ | refine Zh ?_ _)); exact BK1173.out) Try.underlying50 rfl Qa8) rfl ?_
 exact ⟨_, _, Qa4, by (with_reducible repeat (first | apply Kd.Zf | apply Kd.Ze | apply Kd.Zj)); exact Kd.Zv (Kd.Yh (p := ⟨gb1173, 2, none⟩) (Kd.Yh (p := ⟨gb1173, 1, none⟩) (Kd.Yh (p := ⟨gb1173, 0, none⟩) (Kd.Yq HO1189.out BK1173.out (by decide)) (fun _ hk => hk.2) (.bool a0)) (fun _ hk => hk.2) (.slice Ao59 t1186.length co59)) (fun _ hk => hk.2) (.slice Ao60 t1192.length co60)) (fun _ hk => hk.1.1.2), by (with_reducible repeat (first | apply Kd.Zf | apply Kd.Ze | apply Kd.Zj)); exact Kd.Zv (Kd.Yh (p := ⟨gb1173, 2, none⟩) (Kd.Yh (p := ⟨gb1173, 1, none⟩) (Kd.Yh (p := ⟨gb1173, 0, none⟩) (Kd.Yq HO1195.out BK1173.out (by decide)) (fun _ hk => hk.2) (.bool a0)) (fun _ hk => hk.2) (.slice Ao59 t1186.length co59)) (fun _ hk => hk.2) (.slice Ao60 t1192.length co60)) (fun _ hk => hk.1.1.2), Qa0⟩
def r2_Copy.f (a0_0 : Bool) (l0_1 : List Int) (l0_2 : List Int) : Option (Bool × List Int × List Int) := (some (([] : List Int) : List Int)).bind fun y1200 => (if y1200.length + l0_1.length < 35184372088832 then ((some (([] : List Int) : List Int)).bind fun y1206 => (if y1206.length + l0_2.length < 35184372088832 then (some (a0_0, (y1200 ++ l0_1), (y1206 ++ l0_2))) else (none))) else (none))
def r2_Copy.T1 : Bool × List (List Nat × List Nat) := (true, [([], []), ([0], [0]), ([], []), ([], []), ([3], [3]), ([2, 4], [2, 4]), ([], []), ([], []), ([7], [7]), ([6, 8, 5], [6, 8]), ([1, 5, 9], [1, 5, 9]), ([10, 9, 0, 1, 2, 3, 4, 5, 6, 7, 8, 9, 10], [10])])
def r2_Copy.B1 : List Nat := [0, 1, 0, 0, 8, 28, 0, 0, 128, 508, 1023, 2047]
theorem r2_Copy.tab1 : rtab .any (opsOf Try.f97 1) = r2_Copy.T1 := by kernel_rfl
theorem r2_Copy.bits1 : waitsOk r2_Copy.T1.2 r2_Copy.B1 = true := by kernel_rfl
theorem r2_Copy.calls (a0_0 : Bool) (A0_1 : Option Addr) (c0_1 : Nat) (l0_1 : List Int) (A0_2 : Option Addr) (c0_2 : Nat) (l0_2 : List Int) (r1 : Bool) (r2 : List Int) (r3 : List Int) (w : World) (hr0_1 : Kd.C (Kd.int .u32) w A0_1 l0_1.length l0_1) (hc0_1 : l0_1.length ≤ c0_1) (hr0_2 : Kd.C (Kd.int .u32) w A0_2 l0_2.length l0_2) (hc0_2 : l0_2.length ≤ c0_2) (h : r2_Copy.f a0_0 l0_1 l0_2 = some (r1, r2, r3)) :
  Calls Try.prog 97 #[.agg #[.bool a0_0, .slice A0_1 l0_1.length c0_1, .slice A0_2 l0_2.length c0_2]] w fun e w' => ∃ v1_ v2_ : Value, e = .returned (.agg #[.bool r1, v1_, v2_]) ∧ Kd.R (Kd.int .u32) 47 w' w.heap.size (fun k_ => some k_ ≠ (v2_ : Value).ownBlock) v1_ r2 ∧ Kd.R (Kd.int .u32) 47 w' w.heap.size (fun k_ => some k_ ≠ (v1_ : Value).ownBlock) v2_ r3 ∧ Below w.heap.size w w' := by
 have hu50 := Try.underlying50
 have HR0_1 := Yt.mk hr0_1
 have HC0_1 := Yt.mk hc0_1
 clear hr0_1 hc0_1
 have HR0_2 := Yt.mk hr0_2
 have HC0_2 := Yt.mk hc0_2
 clear hr0_2 hc0_2
 have HB := Yt.mk (Below.refl w.heap.size w)
 unfold r2_Copy.f at h
 have H := h
 clear h
 obtain ⟨y1200, hy1200⟩ : ∃ y_ : List Int, y_ = (([] : List Int)) := ⟨_, rfl⟩
 replace H : (if y1200.length + l0_1.length < 35184372088832 then ((some (([] : List Int) : List Int)).bind fun y1206 => (if y1206.length + l0_2.length < 35184372088832 then (some (a0_0, (y1200 ++ l0_1), (y1206 ++ l0_2))) else (none))) else (none)) = some (r1, r2, r3) := Qh hy1200 H
 have Ny1200 := Yt.mk hy1200
 clear hy1200
 by_cases c2 : y1200.length + l0_1.length < 35184372088832
 rotate_left
 ·rw [if_neg c2] at H
  exact absurd H (by simp)
 rw [if_pos c2] at H
 have LMc2 := Yt.mk c2
 clear c2
 obtain ⟨y1203, hy1203⟩ : ∃ y_ : List Int, y_ = (y1200 ++ l0_1) := ⟨_, rfl⟩
 replace H : ((some (([] : List Int) : List Int)).bind fun y1206 => (if y1206.length + l0_2.length < 35184372088832 then (some (a0_0, y1203, (y1206 ++ l0_2))) else (none))) = some (r1, r2, r3) := Qh hy1203 H
 have Ny1203 := Yt.mk hy1203
 clear hy1203
 obtain ⟨y1206, hy1206⟩ : ∃ y_ : List Int, y_ = (([] : List Int)) := ⟨_, rfl⟩
 replace H : (if y1206.length + l0_2.length < 35184372088832 then (some (a0_0, y1203, (y1206 ++ l0_2))) else (none)) = some (r1, r2, r3) := Qh hy1206 H
 have Ny1206 := Yt.mk hy1206
 clear hy1206
 by_cases c3 : y1206.length + l0_2.length < 35184372088832
 rotate_left
 ·rw [if_neg c3] at H
  exact absurd H (by simp)
 rw [if_pos c3] at H
 have LMc3 := Yt.mk c3
 clear c3
 obtain ⟨y1209, hy1209⟩ : ∃ y_ : List Int, y_ = (y1206 ++ l0_2) := ⟨_, rfl⟩
 replace H : (some (a0_0, y1203, y1209)) = some (r1, r2, r3) := Qh hy1209 H
 have Ny1209 := Yt.mk hy1209
 clear hy1209
 simp only [Option.some.injEq, Prod.mk.injEq] at H
 obtain ⟨rfl, rfl, rfl⟩ := H
 go_enter Try.func97, Try.ntmps97
 try go_wp2_with (first | ((with_reducible refine Yk (N := 1) rfl ?_); refine Yo ?hg (N := 1) ?hd (cs := #[.bool a0_0, .slice A0_1 l0_1.length c0_1, .slice A0_2 l0_2.length c0_2]) (t := 50) ?hr ?_; (case hd => rfl); (case hg => rfl); (case hr => exact Qa9); intro gb1198 hg w4 hbox hb; have BK1198 := Yt.mk (hbox); have GW1198 := Yt.mk ((by rw [hg]; exact (Zk (Qa0)) : w.heap.size ≤ gb1198)); have GE1198 := Yt.mk ((by rw [hg]; exact (Zk (Qa0)) : w.heap.size ≤ gb1198)); replace HB := Yt.mk (Zm (Qa0) hb); clear hb hbox hg) | ((with_reducible refine Yk (N := 2) rfl ?_); refine Yo ?hg (N := 2) ?hd (cs := #[.bool false, .slice none 0 0, .slice none 0 0]) (t := 50) ?hr ?_; (case hd => rfl); (case hg => rfl); (case hr => exact Qa9); intro gb1199 hg w5 hbox hb; have BK1199 := Yt.mk (hbox); have GW1199 := Yt.mk ((by rw [hg]; exact (Zk (Qa0)) : w.heap.size ≤ gb1199)); have GE1199 := Yt.mk ((by rw [hg]; exact (Zk (Qa0)) : w.heap.size ≤ gb1199)); replace HB := Yt.mk (Zm (Qa0) hb); have NB1198_1199 := Yt.mk ((by rw [hg]; exact Nat.ne_of_lt (blk_lt (g := gb1198) (o := .cells #[.bool a0_0, .slice A0_1 l0_1.length c0_1, .slice A0_2 l0_2.length c0_2] 50 (0, 0)) (Qr12 BK1198.out)) : gb1198 ≠ gb1199)); have NB1199_1198 := Yt.mk ((by rw [hg]; exact Nat.ne_of_gt (blk_lt (g := gb1198) (o := .cells #[.bool a0_0, .slice A0_1 l0_1.length c0_1, .slice A0_2 l0_2.length c0_2] 50 (0, 0)) (Qr12 BK1198.out)) : gb1199 ≠ gb1198)); replace BK1198 := Yt.mk (Zq (g := gb1198) (o := .cells #[.bool a0_0, .slice A0_1 l0_1.length c0_1, .slice A0_2 l0_2.length c0_2] 50 (0, 0)) (Qr12 BK1198.out) hb); clear hb hbox hg))
 replace BK1198 := Yt.mk (Zi BK1198.out)
 replace BK1199 := Yt.mk (Zi BK1199.out)
 replace HB := Yt.mk (Zc HB.out)
 refine start_ (n := 12) (S := fun w' => w'.cell? ⟨gb1198, 0, none⟩ = some (.bool a0_0) ∧ w'.cell? ⟨gb1198, 1, none⟩ = some (.slice A0_1 l0_1.length c0_1) ∧ w'.cell? ⟨gb1198, 2, none⟩ = some (.slice A0_2 l0_2.length c0_2)) (ds := []) #[false, false, false, false, false, false, false, false, false, false, false, false] Qa8 rfl rfl ⟨(Zl BK1198.out 0).trans rfl, (Zl BK1198.out 1).trans rfl, (Zl BK1198.out 2).trans rfl⟩ (fun hHeld => ?_); refine with_tabW r2_Copy.tab1 r2_Copy.bits1 (fun HT_ HW_ => ?_)
 generalize w5.drew = w6 at BK1198 BK1199 HB hHeld ⊢
 refine pure_ (i := 0) (N := some 3) (v := ?_) (a' := ?_) #[true, false, false, false, false, false, false, false, false, false, false, false] rfl rfl (any_of HT_.out Qa8) (fun _ _ _ h => h) (Or.inl ⟨by rfl, ?_⟩) ?_ ?_
 rotate_left
 ·intro w'
  go_simp
  with_reducible rfl
 rotate_left
 ·simp only [Act.put, List.setIfInBounds_toArray, List.set_cons_zero, List.set_cons_succ, Yi, Yj]
  rfl
 refine pure_ (i := 3) (N := some 6) (v := ?_) (a' := ?_) #[true, false, false, true, false, false, false, false, false, false, false, false] rfl rfl (any_of HT_.out Qa8) (fun _ _ _ h => h) (Or.inl ⟨by rfl, ?_⟩) ?_ ?_
 rotate_left
 ·intro w'
  go_simp
  with_reducible rfl
 rotate_left
 ·simp only [Act.put, List.setIfInBounds_toArray, List.set_cons_zero, List.set_cons_succ, Yi, Yj]
  rfl
 refine pure_ (i := 7) (N := some 10) (v := ?_) (a' := ?_) #[true, false, false, true, false, false, false, true, false, false, false, false] rfl rfl (any_of HT_.out Qa8) (fun _ _ _ h => h) (Or.inl ⟨by rfl, ?_⟩) ?_ ?_
 rotate_left
 ·intro w'
  go_simp
  with_reducible rfl
 rotate_left
 ·simp only [Act.put, List.setIfInBounds_toArray, List.set_cons_zero, List.set_cons_succ, Yi, Yj]
  rfl
 refine take_ (i := 1) (N := some 4) (v := ?_) (a' := ?_) #[true, true, false, true, false, false, false, true, false, false, false, false] rfl rfl (take_ofW HT_.out HW_.out Qa8) (fun _ _ _ h => h) (Or.inl ⟨by rfl, ?_⟩) hHeld ?_ ?_
 rotate_left
 ·rintro w' ⟨s0, s1, s2⟩
  go_simp
  with_reducible rfl
 rotate_left
 ·simp only [Act.put, List.setIfInBounds_toArray, List.set_cons_zero, List.set_cons_succ, Yi, Yj]
  rfl
 refine take_ (i := 4) (N := some 7) (v := ?_) (a' := ?_) #[true, true, false, true, true, false, false, true, false, false, false, false] rfl rfl (take_ofW HT_.out HW_.out Qa8) (fun _ _ _ h => h) (Or.inl ⟨by rfl, ?_⟩) hHeld ?_ ?_
 rotate_left
 ·rintro w' ⟨s0, s1, s2⟩
  go_simp
  with_reducible rfl
 rotate_left
 ·simp only [Act.put, List.setIfInBounds_toArray, List.set_cons_zero, List.set_cons_succ, Yi, Yj]
  rfl
 refine take_ (i := 8) (N := some 11) (v := ?_) (a' := ?_) #[true, true, false, true, true, false, false, true, true, false, false, false] rfl rfl (take_ofW HT_.out HW_.out Qa8) (fun _ _ _ h => h) (Or.inl ⟨by rfl, ?_⟩) hHeld ?_ ?_
 rotate_left
 ·rintro w' ⟨s0, s1, s2⟩
  go_simp
  with_reducible rfl
 rotate_left
 ·simp only [Act.put, List.setIfInBounds_toArray, List.set_cons_zero, List.set_cons_succ, Yi, Yj]
  rfl
 refine join_ (σ := Value × Value × Value) 3 #[true, true, true, true, true, true, true, true, true, false, false, false] (fun s_ => [(5, s_.1), (8, s_.2.1), (9, s_.2.2)]) (fun s_ w' => (w'.cell? ⟨gb1198, 0, none⟩ = some (.bool a0_0) ∧ w'.cell? ⟨gb1198, 1, none⟩ = some (.slice A0_1 l0_1.length c0_1) ∧ w'.cell? ⟨gb1198, 2, none⟩ = some (.slice A0_2 l0_2.length c0_2)) ∧ (Kd.R (Kd.int .u32) 47 w' w.heap.size (fun k_ => some k_ ≠ (s_.2.2 : Value).ownBlock) s_.2.1 y1203) ∧ (Kd.R (Kd.int .u32) 47 w' w.heap.size (fun k_ => some k_ ≠ (s_.2.1 : Value).ownBlock) s_.2.2 y1206) ∧ (w'.heap[gb1198]? = some (.cells #[.bool a0_0, .slice A0_1 l0_1.length c0_1, .slice A0_2 l0_2.length c0_2] 50 (0, 0))) ∧ (w'.heap[gb1199]? = some (.cells #[.bool false, .slice none 0 0, .slice none 0 0] 50 (0, 0))) ∧ (Below w.heap.size w w')) ?_ ?_
 rotate_left
 ·intro hCont
  refine two_ (i := 2) (j := 6) (Ni := some 5) (Nj := some 9) #[true, true, true, true, true, false, false, true, true, false, false, false] #[true, true, false, true, true, false, true, true, true, false, false, false] rfl rfl rfl rfl (two_of HT_.out Qa8) (by decide) (by decide) (fun K hK => ?_) (fun K hK => ?_)
  rotate_left
  ·skip
   refine Kd.R_lit_step (Kd.int .u32) _ 47 ?hg (N := 9) ?hd (xs := ([] : List Int)) (inner := []) (ok := fun _ => True) (okp := fun _ => True) ?hr ?hp (fun _ hk => hk) trivial (Below.refl _ _) (Nat.le_refl _) (by simp) ?_; (case hd => rfl); (case hg => rfl); (case hr => exact Qa9); (case hp => exact (Reps.none _ _))
   intro v1207 w7 ho8 hb hg_ hnew_
   clear hg_ hnew_
   (first | rw [← Ny1206.out] at ho8 | (simp only [Int.reduceToNat] at ho8; rw [← Ny1206.out] at ho8))
   have HO1208 := Yt.mk (Kd.Yb ho8 (Zk (Qa0)))
   replace BK1198 := Yt.mk (Zq (g := gb1198) (o := .cells #[.bool a0_0, .slice A0_1 l0_1.length c0_1, .slice A0_2 l0_2.length c0_2] 50 (0, 0)) (Qr12 BK1198.out) hb)
   replace BK1199 := Yt.mk (Zq (g := gb1199) (o := .cells #[.bool false, .slice none 0 0, .slice none 0 0] 50 (0, 0)) (Qr12 BK1199.out) hb)
   replace HB := Yt.mk (Zm (Qa0) hb)
   clear hb ho8
   refine hK.out _ _ ⟨(Zl BK1198.out 0).trans rfl, (Zl BK1198.out 1).trans rfl, (Zl BK1198.out 2).trans rfl⟩ (fun hHeld => ?_)
   clear hK K
   refine norm_ (a' := ?_) ?_ ?_
   rotate_left
   ·show Act.put _ (some 9) _ = _
    simp only [Act.put, List.setIfInBounds_toArray, List.set_cons_zero, List.set_cons_succ, Yi, Yj]
    rfl
   refine one_ (i := 2) (N := some 5) #[true, true, true, true, true, false, true, true, true, false, false, false] rfl rfl (one_of HT_.out Qa8) (by decide) (fun K hK => ?_)
   refine Kd.R_lit_step (Kd.int .u32) _ 47 ?hg (N := 5) ?hd (xs := ([] : List Int)) (inner := []) (ok := fun _ => True) (okp := fun _ => True) ?hr ?hp (fun _ hk => hk) trivial (Below.refl _ _) (Nat.le_refl _) (by simp) ?_; (case hd => rfl); (case hg => rfl); (case hr => exact Qa9); (case hp => exact (Reps.none _ _))
   intro v1201 w9 ho10 hb hg_ hnew_
   clear hg_ hnew_
   (first | rw [← Ny1200.out] at ho10 | (simp only [Int.reduceToNat] at ho10; rw [← Ny1200.out] at ho10))
   have HO1202 := Yt.mk (Kd.Yb (Kd.Ya ho10 (Kd.R_lt (Qr1 HO1208.out))) (Zk (Qa0)))
   replace HO1208 := Yt.mk (Kd.Yf (Qr1 HO1208.out) (Kd.Zw ho10) hb)
   replace BK1198 := Yt.mk (Zq (g := gb1198) (o := .cells #[.bool a0_0, .slice A0_1 l0_1.length c0_1, .slice A0_2 l0_2.length c0_2] 50 (0, 0)) (Qr12 BK1198.out) hb)
   replace BK1199 := Yt.mk (Zq (g := gb1199) (o := .cells #[.bool false, .slice none 0 0, .slice none 0 0] 50 (0, 0)) (Qr12 BK1199.out) hb)
   replace HB := Yt.mk (Zm (Qa0) hb)
   clear hb ho10
   refine hK.out _ _ ⟨(Zl BK1198.out 0).trans rfl, (Zl BK1198.out 1).trans rfl, (Zl BK1198.out 2).trans rfl⟩ (fun hHeld => ?_)
   clear hK K
   refine norm_ (a' := ?_) ?_ ?_
   rotate_left
   ·show Act.put _ (some 5) _ = _
    simp only [Act.put, List.setIfInBounds_toArray, List.set_cons_zero, List.set_cons_succ, Yi, Yj]
    rfl
   refine one_ (i := 5) (N := some 8) #[true, true, true, true, true, true, true, true, true, false, false, false] rfl rfl (one_of HT_.out Qa8) (by decide) (fun K hK => ?_)
   refine Kd.R_append_rows_step (Kd.int .u32) (w0 := w) w.heap.size (by rfl) (.tmp 5) (.tmp 7) 22 47 (.int .u32 0) 4 rfl Try.underlying22 info47 rfl (by decide) (by omega) v1201 y1200 l0_1 _ _ _ (fun k_ => some k_ ≠ (v1207 : Value).ownBlock) (fun _ => False) rfl rfl ?aO ?aR (fun _ _ h => h) (fun _ h => h.elim) ?aF ?aB ?aS ?aL ?_
   (case aR => exact Qe11 (Kd.Ys HR0_1.out HB.out))
   (case aB => exact (Qa0))
   (case aF => exact (fun k_ hk => Kd.fresh' (Kd.R_lt (Qr1 HO1208.out)) k_ hk))
   (case aO => exact (by (with_reducible repeat (first | apply Kd.Zf | apply Kd.Ze | apply Kd.Zj)); exact Kd.Zv HO1202.out (fun _ hk => hk.2)))
   (case aS => exact (Zk (Qa0)))
   (case aL => have := LMc2.out; omega)
   intro v1204 w11 ho hb hg hat
   rw [← Ny1203.out] at ho
   replace BK1198 := Yt.mk (blk_grown (g := gb1198) (o := .cells #[.bool a0_0, .slice A0_1 l0_1.length c0_1, .slice A0_2 l0_2.length c0_2] 50 (0, 0)) (Qr12 BK1198.out) hg (Kd.R_ne HO1202.out BK1198.out (by decide)))
   replace BK1199 := Yt.mk (blk_grown (g := gb1199) (o := .cells #[.bool false, .slice none 0 0, .slice none 0 0] 50 (0, 0)) (Qr12 BK1199.out) hg (Kd.R_ne HO1202.out BK1199.out (by decide)))
   replace HO1208 := Yt.mk (Kd.R_after (ok := (fun _ => True)) (Qr1 HO1208.out) hg hat)
   replace HB := Yt.mk (hb)
   have HO1205 := Yt.mk (ho)
   clear HO1202
   clear ho hb hg hat
   refine hK.out _ _ ⟨(Zl BK1198.out 0).trans rfl, (Zl BK1198.out 1).trans rfl, (Zl BK1198.out 2).trans rfl⟩ (fun hHeld => ?_)
   clear hK K
   refine norm_ (a' := ?_) ?_ ?_
   rotate_left
   ·show Act.put _ (some 8) _ = _
    simp only [Act.put, List.setIfInBounds_toArray, List.set_cons_zero, List.set_cons_succ, Yi, Yj]
    rfl
   exact norm_ (by simp only [putAll, Act.put, List.setIfInBounds_toArray, List.set_cons_zero, List.set_cons_succ]) (hCont (v1201, v1204, v1207) _ ⟨hHeld, (Qr1 HO1205.out), (by (with_reducible repeat (first | apply Kd.Zf | apply Kd.Ze | apply Kd.Zj)); exact Kd.Zv HO1208.out (fun _ hk => hk.2)), (Qr12 BK1198.out), (Qr12 BK1199.out), (Qa0)⟩)
  skip
  refine Kd.R_lit_step (Kd.int .u32) _ 47 ?hg (N := 5) ?hd (xs := ([] : List Int)) (inner := []) (ok := fun _ => True) (okp := fun _ => True) ?hr ?hp (fun _ hk => hk) trivial (Below.refl _ _) (Nat.le_refl _) (by simp) ?_; (case hd => rfl); (case hg => rfl); (case hr => exact Qa9); (case hp => exact (Reps.none _ _))
  intro v1201 w7 ho8 hb hg_ hnew_
  clear hg_ hnew_
  (first | rw [← Ny1200.out] at ho8 | (simp only [Int.reduceToNat] at ho8; rw [← Ny1200.out] at ho8))
  have HO1202 := Yt.mk (Kd.Yb ho8 (Zk (Qa0)))
  replace BK1198 := Yt.mk (Zq (g := gb1198) (o := .cells #[.bool a0_0, .slice A0_1 l0_1.length c0_1, .slice A0_2 l0_2.length c0_2] 50 (0, 0)) (Qr12 BK1198.out) hb)
  replace BK1199 := Yt.mk (Zq (g := gb1199) (o := .cells #[.bool false, .slice none 0 0, .slice none 0 0] 50 (0, 0)) (Qr12 BK1199.out) hb)
  replace HB := Yt.mk (Zm (Qa0) hb)
  clear hb ho8
  refine hK.out _ _ ⟨(Zl BK1198.out 0).trans rfl, (Zl BK1198.out 1).trans rfl, (Zl BK1198.out 2).trans rfl⟩ (fun hHeld => ?_)
  clear hK K
  refine norm_ (a' := ?_) ?_ ?_
  rotate_left
  ·show Act.put _ (some 5) _ = _
   simp only [Act.put, List.setIfInBounds_toArray, List.set_cons_zero, List.set_cons_succ, Yi, Yj]
   rfl
  refine two_ (i := 5) (j := 6) (Ni := some 8) (Nj := some 9) #[true, true, true, true, true, true, false, true, true, false, false, false] #[true, true, true, true, true, false, true, true, true, false, false, false] rfl rfl rfl rfl (two_of HT_.out Qa8) (by decide) (by decide) (fun K hK => ?_) (fun K hK => ?_)
  ·skip
   refine Kd.R_append_rows_step (Kd.int .u32) (w0 := w) w.heap.size (by rfl) (.tmp 5) (.tmp 7) 22 47 (.int .u32 0) 4 rfl Try.underlying22 info47 rfl (by decide) (by omega) v1201 y1200 l0_1 _ _ _ (fun _ => True) (fun _ => False) rfl rfl ?aO ?aR (fun _ _ h => h) (fun _ h => h.elim) ?aF ?aB ?aS ?aL ?_
   (case aR => exact Qe11 (Kd.Ys HR0_1.out HB.out))
   (case aB => exact (Qa0))
   (case aF => exact (fun _ _ => trivial))
   (case aO => exact (Qr1 HO1202.out))
   (case aS => exact (Zk (Qa0)))
   (case aL => have := LMc2.out; omega)
   intro v1204 w9 ho hb hg hat
   rw [← Ny1203.out] at ho
   replace BK1198 := Yt.mk (blk_grown (g := gb1198) (o := .cells #[.bool a0_0, .slice A0_1 l0_1.length c0_1, .slice A0_2 l0_2.length c0_2] 50 (0, 0)) (Qr12 BK1198.out) hg (Kd.R_ne HO1202.out BK1198.out (by decide)))
   replace BK1199 := Yt.mk (blk_grown (g := gb1199) (o := .cells #[.bool false, .slice none 0 0, .slice none 0 0] 50 (0, 0)) (Qr12 BK1199.out) hg (Kd.R_ne HO1202.out BK1199.out (by decide)))
   replace HB := Yt.mk (hb)
   have HO1205 := Yt.mk (ho)
   clear HO1202
   clear ho hb hg hat
   refine hK.out _ _ ⟨(Zl BK1198.out 0).trans rfl, (Zl BK1198.out 1).trans rfl, (Zl BK1198.out 2).trans rfl⟩ (fun hHeld => ?_)
   clear hK K
   refine norm_ (a' := ?_) ?_ ?_
   rotate_left
   ·show Act.put _ (some 8) _ = _
    simp only [Act.put, List.setIfInBounds_toArray, List.set_cons_zero, List.set_cons_succ, Yi, Yj]
    rfl
   refine one_ (i := 6) (N := some 9) #[true, true, true, true, true, true, true, true, true, false, false, false] rfl rfl (one_of HT_.out Qa8) (by decide) (fun K hK => ?_)
   refine Kd.R_lit_step (Kd.int .u32) _ 47 ?hg (N := 9) ?hd (xs := ([] : List Int)) (inner := []) (ok := fun _ => True) (okp := fun _ => True) ?hr ?hp (fun _ hk => hk) trivial (Below.refl _ _) (Nat.le_refl _) (by simp) ?_; (case hd => rfl); (case hg => rfl); (case hr => exact Qa9); (case hp => exact (Reps.none _ _))
   intro v1207 w10 ho11 hb hg_ hnew_
   clear hg_ hnew_
   (first | rw [← Ny1206.out] at ho11 | (simp only [Int.reduceToNat] at ho11; rw [← Ny1206.out] at ho11))
   have HO1208 := Yt.mk (Kd.Yb (Kd.Ya ho11 (Kd.R_lt (Qr1 HO1205.out))) (Zk (Qa0)))
   replace HO1205 := Yt.mk (Kd.Yf (Qr1 HO1205.out) (Kd.Zw ho11) hb)
   replace BK1198 := Yt.mk (Zq (g := gb1198) (o := .cells #[.bool a0_0, .slice A0_1 l0_1.length c0_1, .slice A0_2 l0_2.length c0_2] 50 (0, 0)) (Qr12 BK1198.out) hb)
   replace BK1199 := Yt.mk (Zq (g := gb1199) (o := .cells #[.bool false, .slice none 0 0, .slice none 0 0] 50 (0, 0)) (Qr12 BK1199.out) hb)
   replace HB := Yt.mk (Zm (Qa0) hb)
   clear hb ho11
   refine hK.out _ _ ⟨(Zl BK1198.out 0).trans rfl, (Zl BK1198.out 1).trans rfl, (Zl BK1198.out 2).trans rfl⟩ (fun hHeld => ?_)
   clear hK K
   refine norm_ (a' := ?_) ?_ ?_
   rotate_left
   ·show Act.put _ (some 9) _ = _
    simp only [Act.put, List.setIfInBounds_toArray, List.set_cons_zero, List.set_cons_succ, Yi, Yj]
    rfl
   exact norm_ (by simp only [putAll, Act.put, List.setIfInBounds_toArray, List.set_cons_zero, List.set_cons_succ]) (hCont (v1201, v1204, v1207) _ ⟨hHeld, (by (with_reducible repeat (first | apply Kd.Zf | apply Kd.Ze | apply Kd.Zj)); exact Kd.Zv HO1205.out (fun _ hk => hk.2)), (by (with_reducible repeat (first | apply Kd.Zf | apply Kd.Ze | apply Kd.Zj)); exact Kd.Zv HO1208.out (fun _ hk => hk.2)), (Qr12 BK1198.out), (Qr12 BK1199.out), (Qa0)⟩)
  skip
  refine Kd.R_lit_step (Kd.int .u32) _ 47 ?hg (N := 9) ?hd (xs := ([] : List Int)) (inner := []) (ok := fun _ => True) (okp := fun _ => True) ?hr ?hp (fun _ hk => hk) trivial (Below.refl _ _) (Nat.le_refl _) (by simp) ?_; (case hd => rfl); (case hg => rfl); (case hr => exact Qa9); (case hp => exact (Reps.none _ _))
  intro v1207 w9 ho10 hb hg_ hnew_
  clear hg_ hnew_
  (first | rw [← Ny1206.out] at ho10 | (simp only [Int.reduceToNat] at ho10; rw [← Ny1206.out] at ho10))
  have HO1208 := Yt.mk (Kd.Yb (Kd.Ya ho10 (Kd.R_lt (Qr1 HO1202.out))) (Zk (Qa0)))
  replace HO1202 := Yt.mk (Kd.Yf (Qr1 HO1202.out) (Kd.Zw ho10) hb)
  replace BK1198 := Yt.mk (Zq (g := gb1198) (o := .cells #[.bool a0_0, .slice A0_1 l0_1.length c0_1, .slice A0_2 l0_2.length c0_2] 50 (0, 0)) (Qr12 BK1198.out) hb)
  replace BK1199 := Yt.mk (Zq (g := gb1199) (o := .cells #[.bool false, .slice none 0 0, .slice none 0 0] 50 (0, 0)) (Qr12 BK1199.out) hb)
  replace HB := Yt.mk (Zm (Qa0) hb)
  clear hb ho10
  refine hK.out _ _ ⟨(Zl BK1198.out 0).trans rfl, (Zl BK1198.out 1).trans rfl, (Zl BK1198.out 2).trans rfl⟩ (fun hHeld => ?_)
  clear hK K
  refine norm_ (a' := ?_) ?_ ?_
  rotate_left
  ·show Act.put _ (some 9) _ = _
   simp only [Act.put, List.setIfInBounds_toArray, List.set_cons_zero, List.set_cons_succ, Yi, Yj]
   rfl
  refine one_ (i := 5) (N := some 8) #[true, true, true, true, true, true, true, true, true, false, false, false] rfl rfl (one_of HT_.out Qa8) (by decide) (fun K hK => ?_)
  refine Kd.R_append_rows_step (Kd.int .u32) (w0 := w) w.heap.size (by rfl) (.tmp 5) (.tmp 7) 22 47 (.int .u32 0) 4 rfl Try.underlying22 info47 rfl (by decide) (by omega) v1201 y1200 l0_1 _ _ _ (fun k_ => some k_ ≠ (v1207 : Value).ownBlock) (fun _ => False) rfl rfl ?aO ?aR (fun _ _ h => h) (fun _ h => h.elim) ?aF ?aB ?aS ?aL ?_
  (case aR => exact Qe11 (Kd.Ys HR0_1.out HB.out))
  (case aB => exact (Qa0))
  (case aF => exact (fun k_ hk => Kd.fresh' (Kd.R_lt (Qr1 HO1208.out)) k_ hk))
  (case aO => exact (by (with_reducible repeat (first | apply Kd.Zf | apply Kd.Ze | apply Kd.Zj)); exact Kd.Zv HO1202.out (fun _ hk => hk.2)))
  (case aS => exact (Zk (Qa0)))
  (case aL => have := LMc2.out; omega)
  intro v1204 w11 ho hb hg hat
  rw [← Ny1203.out] at ho
  replace BK1198 := Yt.mk (blk_grown (g := gb1198) (o := .cells #[.bool a0_0, .slice A0_1 l0_1.length c0_1, .slice A0_2 l0_2.length c0_2] 50 (0, 0)) (Qr12 BK1198.out) hg (Kd.R_ne HO1202.out BK1198.out (by decide)))
  replace BK1199 := Yt.mk (blk_grown (g := gb1199) (o := .cells #[.bool false, .slice none 0 0, .slice none 0 0] 50 (0, 0)) (Qr12 BK1199.out) hg (Kd.R_ne HO1202.out BK1199.out (by decide)))
  replace HO1208 := Yt.mk (Kd.R_after (ok := (fun _ => True)) (Qr1 HO1208.out) hg hat)
  replace HB := Yt.mk (hb)
  have HO1205 := Yt.mk (ho)
  clear HO1202
  clear ho hb hg hat
  refine hK.out _ _ ⟨(Zl BK1198.out 0).trans rfl, (Zl BK1198.out 1).trans rfl, (Zl BK1198.out 2).trans rfl⟩ (fun hHeld => ?_)
  clear hK K
  refine norm_ (a' := ?_) ?_ ?_
  rotate_left
  ·show Act.put _ (some 8) _ = _
   simp only [Act.put, List.setIfInBounds_toArray, List.set_cons_zero, List.set_cons_succ, Yi, Yj]
   rfl
  exact norm_ (by simp only [putAll, Act.put, List.setIfInBounds_toArray, List.set_cons_zero, List.set_cons_succ]) (hCont (v1201, v1204, v1207) _ ⟨hHeld, (Qr1 HO1205.out), (by (with_reducible repeat (first | apply Kd.Zf | apply Kd.Ze | apply Kd.Zj)); exact Kd.Zv HO1208.out (fun _ hk => hk.2)), (Qr12 BK1198.out), (Qr12 BK1199.out), (Qa0)⟩)
 rintro ⟨v1201, v1204, v1207⟩ w12 ⟨hS_, h0_, h1_, h2_, h3_, h4_⟩
 have HO1205 : Yt (Kd.R (Kd.int .u32) 47 w12 w.heap.size (fun k_ => some k_ ≠ (v1207 : Value).ownBlock) v1204 y1203) := ⟨h0_⟩
 have HO1208 : Yt (Kd.R (Kd.int .u32) 47 w12 w.heap.size (fun k_ => some k_ ≠ (v1204 : Value).ownBlock) v1207 y1206) := ⟨h1_⟩
 replace BK1198 : Yt (w12.heap[gb1198]? = some (.cells #[.bool a0_0, .slice A0_1 l0_1.length c0_1, .slice A0_2 l0_2.length c0_2] 50 (0, 0))) := ⟨h2_⟩
 replace BK1199 : Yt (w12.heap[gb1199]? = some (.cells #[.bool false, .slice none 0 0, .slice none 0 0] 50 (0, 0))) := ⟨h3_⟩
 replace HB : Yt (Below w.heap.size w w12) := ⟨h4_⟩
 clear h0_ h1_ h2_ h3_ h4_
 have hHeld : w12.cell? ⟨gb1198, 0, none⟩ = some (.bool a0_0) ∧ w12.cell? ⟨gb1198, 1, none⟩ = some (.slice A0_1 l0_1.length c0_1) ∧ w12.cell? ⟨gb1198, 2, none⟩ = some (.slice A0_2 l0_2.length c0_2) := hS_
 refine norm_ (a' := ?_) ?_ ?_
 rotate_left
 ·simp only [putAll, Act.put, List.setIfInBounds_toArray, List.set_cons_zero, List.set_cons_succ]
  rfl
 refine one_ (i := 9) (N := some 12) #[true, true, true, true, true, true, true, true, true, true, false, false] rfl rfl (one_of HT_.out Qa8) (by decide) (fun K hK => ?_)
 refine Kd.R_append_rows_step (Kd.int .u32) (w0 := w) w.heap.size (by rfl) (.tmp 9) (.tmp 11) 22 47 (.int .u32 0) 4 rfl Try.underlying22 info47 rfl (by decide) (by omega) v1207 y1206 l0_2 _ _ _ (fun k_ => some k_ ≠ (v1204 : Value).ownBlock) (fun _ => False) rfl rfl ?aO ?aR (fun _ _ h => h) (fun _ h => h.elim) ?aF ?aB ?aS ?aL ?_
 (case aR => exact Qe11 (Kd.Ys HR0_2.out HB.out))
 (case aB => exact (Qa0))
 (case aF => exact (fun k_ hk => Kd.fresh' (Kd.R_lt (Qr1 HO1205.out)) k_ hk))
 (case aO => exact (Qr1 HO1208.out))
 (case aS => exact (Zk (Qa0)))
 (case aL => have := LMc3.out; omega)
 intro v1210 w13 ho hb hg hat
 rw [← Ny1209.out] at ho
 replace BK1198 := Yt.mk (blk_grown (g := gb1198) (o := .cells #[.bool a0_0, .slice A0_1 l0_1.length c0_1, .slice A0_2 l0_2.length c0_2] 50 (0, 0)) (Qr12 BK1198.out) hg (Kd.R_ne HO1208.out BK1198.out (by decide)))
 replace BK1199 := Yt.mk (blk_grown (g := gb1199) (o := .cells #[.bool false, .slice none 0 0, .slice none 0 0] 50 (0, 0)) (Qr12 BK1199.out) hg (Kd.R_ne HO1208.out BK1199.out (by decide)))
 replace HO1205 := Yt.mk (Kd.R_after (ok := (fun _ => True)) (by (with_reducible repeat (first | apply Kd.Zf | apply Kd.Ze | apply Kd.Zj)); exact Kd.Zv HO1205.out (fun _ hk => ⟨trivial, hk⟩)) hg hat)
 replace HB := Yt.mk (hb)
 have HO1211 := Yt.mk (ho)
 clear HO1208
 clear ho hb hg hat
 obtain ⟨Ao14, co14, eo14⟩ := Kd.Zx HO1211.out
 (first | subst eo14 | (injection eo14 with f1_ f2_ f3_; have f4_ := f1_.symm; have f5_ := f3_.symm; clear f1_ f2_ f3_; subst f4_; subst f5_))
 obtain ⟨Ao15, co15, eo15⟩ := Kd.Zx HO1205.out
 (first | subst eo15 | (injection eo15 with f1_ f2_ f3_; have f4_ := f1_.symm; have f5_ := f3_.symm; clear f1_ f2_ f3_; subst f4_; subst f5_))
 refine hK.out _ _ ⟨(Zl BK1198.out 0).trans rfl, (Zl BK1198.out 1).trans rfl, (Zl BK1198.out 2).trans rfl⟩ (fun hHeld => ?_)
 clear hK K
 refine norm_ (a' := ?_) ?_ ?_
 rotate_left
 ·show Act.put _ (some 12) _ = _
  simp only [Act.put, List.setIfInBounds_toArray, List.set_cons_zero, List.set_cons_succ, Yi, Yj]
  rfl
 refine pure_ (i := 10) (N := some 13) (v := ?_) (a' := ?_) #[true, true, true, true, true, true, true, true, true, true, true, false] rfl rfl (any_of HT_.out Qa8) (fun _ _ _ h => h) (Or.inl ⟨by rfl, ?_⟩) ?_ ?_
 rotate_left
 ·intro w'
  go_simp
  with_reducible rfl
 rotate_left
 ·simp only [Act.put, List.setIfInBounds_toArray, List.set_cons_zero, List.set_cons_succ, Yi, Yj]
  rfl
 refine one_ (i := 11) (N := none) #[true, true, true, true, true, true, true, true, true, true, true, true] rfl rfl (one_of HT_.out Qa8) (by decide) (fun K hK => ?_)
 have hs16 : w13.cell? ⟨gb1199, 0, none⟩ = some (.bool false) := (Zl BK1199.out 0).trans rfl
 have hfs16 := Zn BK1199.out 0
 have hns16_0 := NB1198_1199.out
 have hms16_0 := NB1199_1198.out
 have hs17 : w13.cell? ⟨gb1199, 1, none⟩ = some (.slice none 0 0) := (Zl BK1199.out 1).trans rfl
 have hfs17 := Zn BK1199.out 1
 have hns17_0 := NB1198_1199.out
 have hms17_0 := NB1199_1198.out
 have hs18 : w13.cell? ⟨gb1199, 2, none⟩ = some (.slice none 0 0) := (Zl BK1199.out 2).trans rfl
 have hfs18 := Zn BK1199.out 2
 have hns18_0 := NB1198_1199.out
 have hms18_0 := NB1199_1198.out
 refine skip_ (w1 := ?_) (by rfl) rfl ?_ ?_
 rotate_left
 ·go_simp
  rfl
 refine hK.out _ _ ⟨((cell_far (p := ⟨gb1199, _, none⟩) NB1198_1199.out _).trans (((cell_far (p := ⟨gb1199, _, none⟩) NB1198_1199.out _).trans (((cell_far (p := ⟨gb1199, _, none⟩) NB1198_1199.out _).trans (hHeld.1)))))), ((cell_far (p := ⟨gb1199, _, none⟩) NB1198_1199.out _).trans (((cell_far (p := ⟨gb1199, _, none⟩) NB1198_1199.out _).trans (((cell_far (p := ⟨gb1199, _, none⟩) NB1198_1199.out _).trans (hHeld.2.1)))))), ((cell_far (p := ⟨gb1199, _, none⟩) NB1198_1199.out _).trans (((cell_far (p := ⟨gb1199, _, none⟩) NB1198_1199.out _).trans (((cell_far (p := ⟨gb1199, _, none⟩) NB1198_1199.out _).trans (hHeld.2.2))))))⟩ (fun hHeld => ?_)
 clear hK K
 refine done_ (done_of HT_.out Qa8) ?_
 try go_wp2
 refine bodyPost_ret (results_cell_row rfl _ _ gb1199 50 #[.bool a0_0, .slice Ao15 y1203.length co15, .slice Ao14 y1209.length co14] (0, 0) _ rfl (by (with_reducible repeat (first | refine Zg ?_ _ | refine Zi ?_ | refine Zh ?_ _)); refine Ym (cs := #[.bool a0_0, .slice Ao15 y1203.length co15, .slice none 0 0]) ?_ 2 _ rfl; (with_reducible repeat (first | refine Zg ?_ _ | refine Zi ?_ | refine Zh ?_ _)); refine Ym (cs := #[.bool a0_0, .slice none 0 0, .slice none 0 0]) ?_ 1 _ rfl; (with_reducible repeat (first | refine Zg ?_ _ | refine Zi ?_ | refine Zh ?_ _)); refine Ym (cs := #[.bool false, .slice none 0 0, .slice none 0 0]) ?_ 0 _ rfl; (with_reducible repeat (first | refine Zg ?_ _ | refine Zi ?_ | refine Zh ?_ _)); exact BK1199.out) Try.underlying50 rfl Qa8) rfl ?_
 exact ⟨_, _, Qa4, by (with_reducible repeat (first | apply Kd.Zf | apply Kd.Ze | apply Kd.Zj)); exact Kd.Zv (Kd.Yh (p := ⟨gb1199, 2, none⟩) (Kd.Yh (p := ⟨gb1199, 1, none⟩) (Kd.Yh (p := ⟨gb1199, 0, none⟩) (Kd.Yq HO1205.out BK1199.out (by decide)) (fun _ hk => hk.2) (.bool a0_0)) (fun _ hk => hk.2) (.slice Ao15 y1203.length co15)) (fun _ hk => hk.2) (.slice Ao14 y1209.length co14)) (fun _ hk => hk.1.2), by (with_reducible repeat (first | apply Kd.Zf | apply Kd.Ze | apply Kd.Zj)); exact Kd.Zv (Kd.Yh (p := ⟨gb1199, 2, none⟩) (Kd.Yh (p := ⟨gb1199, 1, none⟩) (Kd.Yh (p := ⟨gb1199, 0, none⟩) (Kd.Yq HO1211.out BK1199.out (by decide)) (fun _ hk => hk.2) (.bool a0_0)) (fun _ hk => hk.2) (.slice Ao15 y1203.length co15)) (fun _ hk => hk.2) (.slice Ao14 y1209.length co14)) (fun _ hk => hk.1), Qa0⟩
def w2_own.f (a0_0 : Bool) (l0_1 : List Int) (l0_2 : List Int) : Option (Bool × List Int × List Int) := (r2_Copy.f a0_0 l0_1 l0_2).bind fun bt1214 => (some (bt1214.1, bt1214.2.1, bt1214.2.2))
theorem w2_own.calls (a0_0 : Bool) (A0_1 : Option Addr) (c0_1 : Nat) (l0_1 : List Int) (A0_2 : Option Addr) (c0_2 : Nat) (l0_2 : List Int) (r1 : Bool) (r2 : List Int) (r3 : List Int) (w : World) (hr0_1 : Kd.C (Kd.int .u32) w A0_1 l0_1.length l0_1) (hc0_1 : l0_1.length ≤ c0_1) (hr0_2 : Kd.C (Kd.int .u32) w A0_2 l0_2.length l0_2) (hc0_2 : l0_2.length ≤ c0_2) (h : w2_own.f a0_0 l0_1 l0_2 = some (r1, r2, r3)) :
  Calls Try.prog 51 #[.agg #[.bool a0_0, .slice A0_1 l0_1.length c0_1, .slice A0_2 l0_2.length c0_2]] w fun e w' => ∃ v1_ v2_ : Value, e = .returned (.agg #[.bool r1, v1_, v2_]) ∧ Kd.R (Kd.int .u32) 47 w' w.heap.size (fun k_ => some k_ ≠ (v2_ : Value).ownBlock) v1_ r2 ∧ Kd.R (Kd.int .u32) 47 w' w.heap.size (fun k_ => some k_ ≠ (v1_ : Value).ownBlock) v2_ r3 ∧ Below w.heap.size w w' := by
 have hu50 := Try.underlying50
 have HR0_1 := Yt.mk hr0_1
 have HC0_1 := Yt.mk hc0_1
 clear hr0_1 hc0_1
 have HR0_2 := Yt.mk hr0_2
 have HC0_2 := Yt.mk hc0_2
 clear hr0_2 hc0_2
 have HB := Yt.mk (Below.refl w.heap.size w)
 unfold w2_own.f at h
 have H := h
 clear h
 replace H := Option.bind_eq_some_iff.mp H
 obtain ⟨⟨t1214, t1215, t1218⟩, A20, H⟩ := H
 replace H : (some (t1214, t1215, t1218)) = some (r1, r2, r3) := H
 have A2 := Yt.mk A20
 clear A20
 simp only [Option.some.injEq, Prod.mk.injEq] at H
 obtain ⟨rfl, rfl, rfl⟩ := H
 go_enter Try.func51, Try.ntmps51
 go_wp2_with (first | ((with_reducible refine Yk (N := 1) rfl ?_); refine Yo ?hg (N := 1) ?hd (cs := #[.bool a0_0, .slice A0_1 l0_1.length c0_1, .slice A0_2 l0_2.length c0_2]) (t := 50) ?hr ?_; (case hd => rfl); (case hg => rfl); (case hr => exact Qa9); intro gb1212 hg w3 hbox hb; have BK1212 := Yt.mk (hbox); have GW1212 := Yt.mk ((by rw [hg]; exact (Zk (Qa0)) : w.heap.size ≤ gb1212)); have GE1212 := Yt.mk ((by rw [hg]; exact (Zk (Qa0)) : w.heap.size ≤ gb1212)); replace HB := Yt.mk (Zm (Qa0) hb); clear hb hbox hg) | ((with_reducible refine Yk (N := 2) rfl ?_); refine Yo ?hg (N := 2) ?hd (cs := #[.bool false, .slice none 0 0, .slice none 0 0]) (t := 50) ?hr ?_; (case hd => rfl); (case hg => rfl); (case hr => exact Qa9); intro gb1213 hg w4 hbox hb; have BK1213 := Yt.mk (hbox); have GW1213 := Yt.mk ((by rw [hg]; exact (Zk (Qa0)) : w.heap.size ≤ gb1213)); have GE1213 := Yt.mk ((by rw [hg]; exact (Zk (Qa0)) : w.heap.size ≤ gb1213)); replace HB := Yt.mk (Zm (Qa0) hb); have NB1212_1213 := Yt.mk ((by rw [hg]; exact Nat.ne_of_lt (blk_lt (g := gb1212) (o := .cells #[.bool a0_0, .slice A0_1 l0_1.length c0_1, .slice A0_2 l0_2.length c0_2] 50 (0, 0)) (Qr12 BK1212.out)) : gb1212 ≠ gb1213)); have NB1213_1212 := Yt.mk ((by rw [hg]; exact Nat.ne_of_gt (blk_lt (g := gb1212) (o := .cells #[.bool a0_0, .slice A0_1 l0_1.length c0_1, .slice A0_2 l0_2.length c0_2] 50 (0, 0)) (Qr12 BK1212.out)) : gb1213 ≠ gb1212)); replace BK1212 := Yt.mk (Zq (g := gb1212) (o := .cells #[.bool a0_0, .slice A0_1 l0_1.length c0_1, .slice A0_2 l0_2.length c0_2] 50 (0, 0)) (Qr12 BK1212.out) hb); clear hb hbox hg; have hnb5 := NB1212_1213.out; have hnc5 := NB1213_1212.out; have hcz6_0 : w4.cell? ⟨gb1212, 0, none⟩ = some (.bool a0_0) := (Zl BK1212.out 0).trans rfl; have hcz6_1 : w4.cell? ⟨gb1212, 1, none⟩ = some (.slice A0_1 l0_1.length c0_1) := (Zl BK1212.out 1).trans rfl; have hcz6_2 : w4.cell? ⟨gb1212, 2, none⟩ = some (.slice A0_2 l0_2.length c0_2) := (Zl BK1212.out 2).trans rfl; have hfz6_0 := Zn BK1212.out 0; have hfz6_1 := Zn BK1212.out 1; have hfz6_2 := Zn BK1212.out 2) | ((with_reducible refine Zr (f := 97) rfl ?_); refine Yg (some 4) rfl rfl Try.func97 Qa8 rfl #[.agg #[.bool a0_0, .slice A0_1 l0_1.length c0_1, .slice A0_2 l0_2.length c0_2]] rfl Qa2 ?_; (with_reducible refine (r2_Copy.calls a0_0 _ _ l0_1 _ _ l0_2 t1214 t1215 t1218 _ ?side1 ?side2 ?side3 ?side4 A2.out).mono ?_); (case side1 => exact Qe11 (Kd.Ys HR0_1.out HB.out)); (case side2 => exact HC0_1.out); (case side3 => exact Qe11 (Kd.Ys HR0_2.out HB.out)); (case side4 => exact HC0_2.out); rintro e w7 ⟨v1216, v1219, rfl, ho0, ho1, hb⟩; refine ⟨_, rfl, ?_⟩; have HO1217 := Yt.mk (Kd.Yb ho0 (Zk (Qa0))); have HO1220 := Yt.mk (Kd.Yb ho1 (Zk (Qa0))); replace BK1212 := Yt.mk (Zq (g := gb1212) (o := .cells #[.bool a0_0, .slice A0_1 l0_1.length c0_1, .slice A0_2 l0_2.length c0_2] 50 (0, 0)) (Qr12 BK1212.out) hb); replace BK1213 := Yt.mk (Zq (g := gb1213) (o := .cells #[.bool false, .slice none 0 0, .slice none 0 0] 50 (0, 0)) (Qr12 BK1213.out) hb); replace HB := Yt.mk (Zm (Qa0) hb); (try clear hb); (try clear ho0); (try clear ho1); have hcz8_0 : w7.cell? ⟨gb1213, 0, none⟩ = some (.bool false) := (Zl BK1213.out 0).trans rfl; have hcz8_1 : w7.cell? ⟨gb1213, 1, none⟩ = some (.slice none 0 0) := (Zl BK1213.out 1).trans rfl; have hcz8_2 : w7.cell? ⟨gb1213, 2, none⟩ = some (.slice none 0 0) := (Zl BK1213.out 2).trans rfl; have hfz8_0 := Zn BK1213.out 0; have hfz8_1 := Zn BK1213.out 1; have hfz8_2 := Zn BK1213.out 2; obtain ⟨Ao9, co9, eo9⟩ := Kd.Zx HO1217.out; subst eo9; obtain ⟨Ao10, co10, eo10⟩ := Kd.Zx HO1220.out; subst eo10))
 refine bodyPost_ret (results_cell_row rfl _ _ gb1213 50 #[.bool t1214, .slice Ao9 t1215.length co9, .slice Ao10 t1218.length co10] (0, 0) _ rfl (by (with_reducible repeat (first | refine Zg ?_ _ | refine Zi ?_ | refine Zh ?_ _)); refine Ym (cs := #[.bool t1214, .slice Ao9 t1215.length co9, .slice none 0 0]) ?_ 2 _ rfl; (with_reducible repeat (first | refine Zg ?_ _ | refine Zi ?_ | refine Zh ?_ _)); refine Ym (cs := #[.bool t1214, .slice none 0 0, .slice none 0 0]) ?_ 1 _ rfl; (with_reducible repeat (first | refine Zg ?_ _ | refine Zi ?_ | refine Zh ?_ _)); refine Ym (cs := #[.bool false, .slice none 0 0, .slice none 0 0]) ?_ 0 _ rfl; (with_reducible repeat (first | refine Zg ?_ _ | refine Zi ?_ | refine Zh ?_ _)); exact BK1213.out) Try.underlying50 rfl Qa8) rfl ?_
 exact ⟨_, _, Qa4, by (with_reducible repeat (first | apply Kd.Zf | apply Kd.Ze | apply Kd.Zj)); exact Kd.Zv (Kd.Yh (p := ⟨gb1213, 2, none⟩) (Kd.Yh (p := ⟨gb1213, 1, none⟩) (Kd.Yh (p := ⟨gb1213, 0, none⟩) (Kd.Yq HO1217.out BK1213.out (by decide)) (fun _ hk => hk.2) (.bool t1214)) (fun _ hk => hk.2) (.slice Ao9 t1215.length co9)) (fun _ hk => hk.2) (.slice Ao10 t1218.length co10)) (fun _ hk => hk.1), by (with_reducible repeat (first | apply Kd.Zf | apply Kd.Ze | apply Kd.Zj)); exact Kd.Zv (Kd.Yh (p := ⟨gb1213, 2, none⟩) (Kd.Yh (p := ⟨gb1213, 1, none⟩) (Kd.Yh (p := ⟨gb1213, 0, none⟩) (Kd.Yq HO1220.out BK1213.out (by decide)) (fun _ hk => hk.2) (.bool t1214)) (fun _ hk => hk.2) (.slice Ao9 t1215.length co9)) (fun _ hk => hk.2) (.slice Ao10 t1218.length co10)) (fun _ hk => hk.1), Qa0⟩
def r1_Same.l0 : Nat → List Int → List Int → Int → Option (Bool)
 | 0, _, _, _ => none
 | k + 1, x0, x1, x5 => if x5 < (x0.length : Int) then (if 0 ≤ x5 then (if x5 < (x1.length : Int) then (if (rd x0 x5) = (rd x1 x5) then (r1_Same.l0 k x0 x1 (wrap64 (x5 + 1))) else (some false)) else (none)) else (none)) else (some true)
def r1_Same.f (k : Nat) (l0 : List Int) (l1 : List Int) : Option (Bool) := if (l0.length : Int) = (l1.length : Int) then (r1_Same.l0 k l0 l1 0) else (some false)
theorem r1_Same.calls (k : Nat) (A0 : Option Addr) (c0 : Nat) (l0 : List Int) (A1 : Option Addr) (c1 : Nat) (l1 : List Int) (r : Bool) (w : World) (hr0 : Kd.C (Kd.int .u32) w A0 l0.length l0) (hc0 : l0.length ≤ c0) (hr1 : Kd.C (Kd.int .u32) w A1 l1.length l1) (hc1 : l1.length ≤ c1) (h : r1_Same.f k l0 l1 = some r) :
  Calls Try.prog 25 #[.slice A0 l0.length c0, .slice A1 l1.length c1] w fun e w' => e = .returned (.bool r) ∧ Drawn0 w w' := by
 have HR0 := Yt.mk hr0
 have HC0 := Yt.mk hc0
 clear hr0 hc0
 have HR1 := Yt.mk hr1
 have HC1 := Yt.mk hc1
 clear hr1 hc1
 unfold r1_Same.f at h
 have H := h
 clear h
 by_cases c3 : (l0.length : Int) = (l1.length : Int)
 rotate_left
 ·rw [if_neg c3] at H
  have c3b0 : ((l0.length : Int) == (l1.length : Int)) = false := beq_eq_false_iff_ne.mpr c3
  have c3b1 : ((l0.length : Int) != (l1.length : Int)) = true := bne_iff_ne.mpr c3
  have c3b2 : (l0.length == l1.length) = false := by first | simpa using c3 | (simp at c3 ⊢; omega)
  obtain rfl := Option.some.inj H
  go_enter Try.func25, Try.ntmps25
  go_wp2
  repeat (go_quiet (fail); try go_wp2)
  go_ret
  exact ⟨by first | rfl | (simp; done) | (simp [*]; done), Qa10⟩
 rw [if_pos c3] at H
 have c3b0 : ((l0.length : Int) == (l1.length : Int)) = true := beq_iff_eq.mpr c3
 have c3b1 : ((l0.length : Int) != (l1.length : Int)) = false := bne_eq_false_iff_eq.mpr c3
 have c3b2 : (l0.length == l1.length) = true := by first | simpa using c3 | (simp at c3 ⊢; omega)
 clear c3
 have H' := Yt.mk H
 clear H
 go_enter Try.func25, Try.ntmps25
 go_wp2
 repeat (go_quiet (fail); try go_wp2)
 go_loopg [5] k (fun kq v5 w' => ∃ (x5_1 : Int), v5 = .int .i64 x5_1 ∧ Yt (r1_Same.l0 kq l0 l1 x5_1 = some r) ∧ Yt (kq ≤ k) ∧ Drawn0 w w')
 case atStart => exact ⟨(0), Qa5, H', ⟨Nat.le_refl _⟩, Qa10⟩
 case round =>
  clear H'
  try clear c1; try clear c2; try clear p2; try clear c3; try clear c3b0; try clear c3b1; try clear c3b2
  obtain ⟨x5_1, rfl, HA, HK1, ⟨m1, rfl⟩⟩ := hrel
  cases gk with
  | zero => exact absurd HA.out (by simp [r1_Same.l0])
  | succ k1 =>
   have H := HA.out
   clear HA
   simp only [r1_Same.l0] at H
   by_cases c4 : x5_1 < (l0.length : Int)
   rotate_left
   ·rw [if_neg c4] at H
    have c4b0 : decide (x5_1 < (l0.length : Int)) = false := decide_eq_false c4
    clear c4
    obtain rfl := Option.some.inj H
    go_wp2
    repeat (go_quiet (fail); try go_wp2)
    go_ret
    exact ⟨by first | rfl | (simp; done) | (simp [*]; done), Qa10⟩
   rw [if_pos c4] at H
   have c4b0 : decide (x5_1 < (l0.length : Int)) = true := decide_eq_true c4
   clear c4
   by_cases c5 : 0 ≤ x5_1
   rotate_left
   ·rw [if_neg c5] at H
    exact absurd H (by simp)
   rw [if_pos c5] at H
   have c5b0 : decide (0 ≤ x5_1) = true := decide_eq_true c5
   clear c5
   by_cases c6 : x5_1 < (l1.length : Int)
   rotate_left
   ·rw [if_neg c6] at H
    exact absurd H (by simp)
   rw [if_pos c6] at H
   have c6b0 : decide (x5_1 < (l1.length : Int)) = true := decide_eq_true c6
   clear c6
   by_cases c7 : (rd l0 x5_1) = (rd l1 x5_1)
   rotate_left
   ·rw [if_neg c7] at H
    have c7b0 : ((rd l0 x5_1) == (rd l1 x5_1)) = false := beq_eq_false_iff_ne.mpr c7
    have c7b1 : ((rd l0 x5_1) != (rd l1 x5_1)) = true := bne_iff_ne.mpr c7
    obtain rfl := Option.some.inj H
    have p143 : 0 ≤ (x5_1 : Int) := Qd
    have q143 : x5_1 < (l0.length : Int) := Qd
    obtain ⟨ad143, e143, hx143_0⟩ := Kd.at_int HR0.out x5_1 p143 q143
    cases e143
    replace p143 := eq_true p143
    replace q143 := eq_true q143
    have p144 : 0 ≤ (x5_1 : Int) := Qd
    have q144 : x5_1 < (l1.length : Int) := Qd
    obtain ⟨ad144, e144, hx144_0⟩ := Kd.at_int HR1.out x5_1 p144 q144
    cases e144
    replace p144 := eq_true p144
    replace q144 := eq_true q144
    go_wp2
    repeat (go_quiet (fail); try go_wp2)
    go_ret
    exact ⟨by first | rfl | (simp; done) | (simp [*]; done), Qa10⟩
   rw [if_pos c7] at H
   have c7b0 : ((rd l0 x5_1) == (rd l1 x5_1)) = true := beq_iff_eq.mpr c7
   have c7b1 : ((rd l0 x5_1) != (rd l1 x5_1)) = false := bne_eq_false_iff_eq.mpr c7
   clear c7
   have H' := Yt.mk H
   clear H
   have p143 : 0 ≤ (x5_1 : Int) := Qd
   have q143 : x5_1 < (l0.length : Int) := Qd
   obtain ⟨ad143, e143, hx143_0⟩ := Kd.at_int HR0.out x5_1 p143 q143
   cases e143
   replace p143 := eq_true p143
   replace q143 := eq_true q143
   have p144 : 0 ≤ (x5_1 : Int) := Qd
   have q144 : x5_1 < (l1.length : Int) := Qd
   obtain ⟨ad144, e144, hx144_0⟩ := Kd.at_int HR1.out x5_1 p144 q144
   cases e144
   replace p144 := eq_true p144
   replace q144 := eq_true q144
   go_wp2
   repeat (go_quiet (fail); try go_wp2)
   go_roundg k1
   case measure => have := HK1.out; omega
   case rel => exact ⟨(wrap64 (x5_1 + 1)), Qa5, H', ⟨by have := HK1.out; omega⟩, Qa10⟩
def r1_Form.f (l0 : List Int) : Option (Bool) := if (l0.length : Int) ≤ 16 then (if (l0.length : Int) = 0 then (some true) else (if 0 ≤ (wrap64 ((l0.length : Int) - 1)) then (if (wrap64 ((l0.length : Int) - 1)) < (l0.length : Int) then (some ((rd l0 (wrap64 ((l0.length : Int) - 1))) != 0)) else (none)) else (none))) else (some false)
theorem r1_Form.calls (A0 : Option Addr) (c0 : Nat) (l0 : List Int) (r : Bool) (w : World) (hr0 : Kd.C (Kd.int .u32) w A0 l0.length l0) (hc0 : l0.length ≤ c0) (h : r1_Form.f l0 = some r) :
  Calls Try.prog 39 #[.slice A0 l0.length c0] w fun e w' => e = .returned (.bool r) ∧ Drawn0 w w' := by
 have HR0 := Yt.mk hr0
 have HC0 := Yt.mk hc0
 clear hr0 hc0
 unfold r1_Form.f at h
 have H := h
 clear h
 by_cases c2 : (l0.length : Int) ≤ 16
 rotate_left
 ·rw [if_neg c2] at H
  have c2b0 : decide ((l0.length : Int) ≤ 16) = false := decide_eq_false c2
  have c2b1 : decide (l0.length ≤ 16) = false := decide_eq_false (by omega)
  clear c2
  obtain rfl := Option.some.inj H
  go_enter Try.func39, Try.ntmps39
  go_wp2
  go_ret
  exact ⟨by first | rfl | (simp; done) | (simp [*]; done), Qa10⟩
 rw [if_pos c2] at H
 have c2b0 : decide ((l0.length : Int) ≤ 16) = true := decide_eq_true c2
 have c2b1 : decide (l0.length ≤ 16) = true := decide_eq_true (by omega)
 clear c2
 by_cases c3 : (l0.length : Int) = 0
 ·rw [if_pos c3] at H
  have c3b0 : ((l0.length : Int) == 0) = true := beq_iff_eq.mpr c3
  have c3b1 : ((l0.length : Int) != 0) = false := bne_eq_false_iff_eq.mpr c3
  clear c3
  obtain rfl := Option.some.inj H
  go_enter Try.func39, Try.ntmps39
  go_wp2
  go_ret
  exact ⟨by first | rfl | (simp; done) | (simp [*]; done), Qa10⟩
 rw [if_neg c3] at H
 have c3b0 : ((l0.length : Int) == 0) = false := beq_eq_false_iff_ne.mpr c3
 have c3b1 : ((l0.length : Int) != 0) = true := bne_iff_ne.mpr c3
 have c3b2 : ¬ (l0 = []) := fun h_ => c3 (by rw [h_]; rfl)
 obtain ⟨ji4, hji4⟩ : ∃ j_ : Int, (wrap64 ((l0.length : Int) - 1)) = j_ := ⟨_, rfl⟩
 replace H : (if 0 ≤ (ji4) then (if (ji4) < (l0.length : Int) then (some ((rd l0 (ji4)) != 0)) else (none)) else (none)) = some r := by first | (rw [hji4] at H; exact H) | (simp only [hji4] at H ⊢; exact H)
 have hji4w : (IntKind.i64.wrap ((l0.length : Int) - 1)) = ji4 := (Yi _).trans hji4
 by_cases c5 : 0 ≤ (ji4)
 rotate_left
 ·rw [if_neg c5] at H
  exact absurd H (by simp)
 rw [if_pos c5] at H
 have c5b0 : decide (0 ≤ (ji4)) = true := decide_eq_true c5
 clear c5
 by_cases c6 : (ji4) < (l0.length : Int)
 rotate_left
 ·rw [if_neg c6] at H
  exact absurd H (by simp)
 rw [if_pos c6] at H
 have c6b0 : decide ((ji4) < (l0.length : Int)) = true := decide_eq_true c6
 clear c6
 obtain rfl := Option.some.inj H
 have p631 : 0 ≤ ((ji4) : Int) := Qd
 have q631 : (ji4) < (l0.length : Int) := Qd
 obtain ⟨ad631, e631, hx631_0⟩ := Kd.at_int HR0.out (ji4) p631 q631
 cases e631
 replace p631 := eq_true p631
 replace q631 := eq_true q631
 go_enter Try.func39, Try.ntmps39
 go_wp2
 go_ret
 exact ⟨by first | rfl | (simp; done) | (simp only [← hji4] <;> (first | rfl | simp)) | (simp [*]; done), Qa10⟩
def r2_Form.j0 : Nat → Bool → Bool → List Int → List Int → Option (Bool)
 | 0, _, _, _, _ => none
 | k + 1, x28, x1222000, x1222001, x1222002 => if x28 = true then (some false) else ((r1_Common.f k x1222001 x1222002).bind fun t1224 => ((r1_Same.f k t1224 (([1] : List Int))).bind fun t1230 => (some t1230)))
def r2_Form.f (k : Nat) (a0_0 : Bool) (l0_1 : List Int) (l0_2 : List Int) : Option (Bool) := (r1_Form.f l0_1).bind fun t1222 => (if t1222 = true then ((r1_Form.f l0_2).bind fun t1223 => (if t1223 = true then (if (l0_2.length : Int) = 0 then (r2_Form.j0 k true a0_0 l0_1 l0_2) else (if a0_0 = true then (r2_Form.j0 k ((l0_1.length : Int) == 0) a0_0 l0_1 l0_2) else (r2_Form.j0 k false a0_0 l0_1 l0_2))) else (r2_Form.j0 k true a0_0 l0_1 l0_2))) else (r2_Form.j0 k true a0_0 l0_1 l0_2))
theorem r2_Form.calls (k : Nat) (a0_0 : Bool) (A0_1 : Option Addr) (c0_1 : Nat) (l0_1 : List Int) (A0_2 : Option Addr) (c0_2 : Nat) (l0_2 : List Int) (r : Bool) (w : World) (hr0_1 : Kd.C (Kd.int .u32) w A0_1 l0_1.length l0_1) (hc0_1 : l0_1.length ≤ c0_1) (hr0_2 : Kd.C (Kd.int .u32) w A0_2 l0_2.length l0_2) (hc0_2 : l0_2.length ≤ c0_2) (h : r2_Form.f k a0_0 l0_1 l0_2 = some r) :
  Calls Try.prog 52 #[.agg #[.bool a0_0, .slice A0_1 l0_1.length c0_1, .slice A0_2 l0_2.length c0_2]] w fun e w' => e = .returned (.bool r) ∧ Below w.heap.size w w' := by
 have hu50 := Try.underlying50
 have HR0_1 := Yt.mk hr0_1
 have HC0_1 := Yt.mk hc0_1
 clear hr0_1 hc0_1
 have HR0_2 := Yt.mk hr0_2
 have HC0_2 := Yt.mk hc0_2
 clear hr0_2 hc0_2
 have HB := Yt.mk (Below.refl w.heap.size w)
 unfold r2_Form.f at h
 have H := h
 clear h
 have HC2 := Yt.mk H
 clear H
 go_enter Try.func52, Try.ntmps52
 go_upto_region 1 with (first | ((with_reducible refine Yk (N := 1) rfl ?_); (try (refine gate_guard (by rfl) ?_; dsimp only)); refine Yo ?hg (N := 1) ?hd (cs := #[.bool a0_0, .slice A0_1 l0_1.length c0_1, .slice A0_2 l0_2.length c0_2]) (t := 50) ?hr ?_; (case hd => rfl); (case hg => rfl); (case hr => exact Qa9); intro gb1221 hg w3 hbox hb; have BK1221 := Yt.mk (hbox); have GW1221 := Yt.mk ((by rw [hg]; exact (Zk (Qa0)) : w.heap.size ≤ gb1221)); have GE1221 := Yt.mk ((by rw [hg]; exact (Zk (Qa0)) : w.heap.size ≤ gb1221)); replace HB := Yt.mk (Zm (Qa0) hb); clear hb hbox hg))
 (try simp only [Act.put, List.setIfInBounds_toArray, List.set_cons_zero, List.set_cons_succ])
 go_cut [28] (fun v28 wc => ∃ (kq : Nat) (x28_1 : Bool), v28 = .bool x28_1 ∧ Yt (r2_Form.j0 kq x28_1 a0_0 l0_1 l0_2 = some r) ∧ Yt (kq ≤ k) ∧ Yt (wc.heap[gb1221]? = some (.cells #[.bool a0_0, (.slice A0_1 l0_1.length c0_1), (.slice A0_2 l0_2.length c0_2)] 50 (0, 0))) ∧ Yt (Below w.heap.size w wc))
 case first =>
  have H := HC2.out
  clear HC2
  replace H := Option.bind_eq_some_iff.mp H
  obtain ⟨t1222, A40, H⟩ := H
  try dsimp only at H
  have A4 := Yt.mk A40
  clear A40
  by_cases c5 : t1222 = true
  rotate_left
  ·replace c5 := Bool.eq_false_iff.mpr c5
   subst c5
   rw [if_neg (show ¬ (false = true) by decide)] at H
   have H' := Yt.mk H
   clear H
   have hcz14_0 : w3.cell? ⟨gb1221, 0, none⟩ = some (.bool a0_0) := (Zl BK1221.out 0).trans rfl
   have hcz14_1 : w3.cell? ⟨gb1221, 1, none⟩ = some (.slice A0_1 l0_1.length c0_1) := (Zl BK1221.out 1).trans rfl
   have hcz14_2 : w3.cell? ⟨gb1221, 2, none⟩ = some (.slice A0_2 l0_2.length c0_2) := (Zl BK1221.out 2).trans rfl
   have hfz14_0 := Zn BK1221.out 0
   have hfz14_1 := Zn BK1221.out 1
   have hfz14_2 := Zn BK1221.out 2
   go_wp2_with (first | ((with_reducible refine Zr (f := 39) rfl ?_); refine Yg (some 5) rfl rfl Try.func39 Qa8 rfl #[.slice A0_1 l0_1.length c0_1] rfl Qa2 ?_; (with_reducible refine (r1_Form.calls _ _ l0_1 false _ ?side1 ?side2 A4.out).mono ?_); (case side1 => exact Qe11 (Kd.Ys HR0_1.out HB.out)); (case side2 => exact HC0_1.out); rintro e w' ⟨rfl, ⟨nd, rfl⟩⟩; refine ⟨_, rfl, ?_⟩))
   go_meet
   case rel => exact ⟨_, (true), Qa5, H', ⟨by first | omega | exact Nat.le_refl _⟩, ⟨Qr12 BK1221.out⟩, ⟨Qa0⟩⟩
  subst c5
  rw [if_pos rfl] at H
  replace H := Option.bind_eq_some_iff.mp H
  obtain ⟨t1223, A60, H⟩ := H
  try dsimp only at H
  have A6 := Yt.mk A60
  clear A60
  by_cases c7 : t1223 = true
  rotate_left
  ·replace c7 := Bool.eq_false_iff.mpr c7
   subst c7
   rw [if_neg (show ¬ (false = true) by decide)] at H
   have H' := Yt.mk H
   clear H
   have hcz13_0 : w3.cell? ⟨gb1221, 0, none⟩ = some (.bool a0_0) := (Zl BK1221.out 0).trans rfl
   have hcz13_1 : w3.cell? ⟨gb1221, 1, none⟩ = some (.slice A0_1 l0_1.length c0_1) := (Zl BK1221.out 1).trans rfl
   have hcz13_2 : w3.cell? ⟨gb1221, 2, none⟩ = some (.slice A0_2 l0_2.length c0_2) := (Zl BK1221.out 2).trans rfl
   have hfz13_0 := Zn BK1221.out 0
   have hfz13_1 := Zn BK1221.out 1
   have hfz13_2 := Zn BK1221.out 2
   go_wp2_with (first | ((with_reducible refine Zr (f := 39) rfl ?_); refine Yg (some 5) rfl rfl Try.func39 Qa8 rfl #[.slice A0_1 l0_1.length c0_1] rfl Qa2 ?_; (with_reducible refine (r1_Form.calls _ _ l0_1 true _ ?side1 ?side2 A4.out).mono ?_); (case side1 => exact Qe11 (Kd.Ys HR0_1.out HB.out)); (case side2 => exact HC0_1.out); rintro e w' ⟨rfl, ⟨nd, rfl⟩⟩; refine ⟨_, rfl, ?_⟩) | (go_at_call 39; (with_reducible refine (r1_Form.calls _ _ l0_2 false _ ?side1 ?side2 A6.out).mono ?_); (case side1 => repeat (first | exact (Kd.Ys HR0_2.out (Qa0)) | (with_reducible refine Kd.Zu ?_ _) | (with_reducible refine Kd.Zt ?_ _) | (with_reducible refine Kd.Yc ?_))); (case side2 => exact HC0_2.out); rintro e w' ⟨rfl, ⟨nd, rfl⟩⟩))
   go_meet
   case rel => exact ⟨_, (true), Qa5, H', ⟨by first | omega | exact Nat.le_refl _⟩, ⟨Qr12 BK1221.out⟩, ⟨Qa0⟩⟩
  subst c7
  rw [if_pos rfl] at H
  by_cases c8 : (l0_2.length : Int) = 0
  ·rw [if_pos c8] at H
   have c8b0 : ((l0_2.length : Int) == 0) = true := beq_iff_eq.mpr c8
   have c8b1 : ((l0_2.length : Int) != 0) = false := bne_eq_false_iff_eq.mpr c8
   clear c8
   (first | rw [c8b0] | rw [c8b1] | (simp only [Yi, Yj]; rw [c8b0]) | skip)
   have H' := Yt.mk H
   clear H
   have hcz9_0 : w3.cell? ⟨gb1221, 0, none⟩ = some (.bool a0_0) := (Zl BK1221.out 0).trans rfl
   have hcz9_1 : w3.cell? ⟨gb1221, 1, none⟩ = some (.slice A0_1 l0_1.length c0_1) := (Zl BK1221.out 1).trans rfl
   have hcz9_2 : w3.cell? ⟨gb1221, 2, none⟩ = some (.slice A0_2 l0_2.length c0_2) := (Zl BK1221.out 2).trans rfl
   have hfz9_0 := Zn BK1221.out 0
   have hfz9_1 := Zn BK1221.out 1
   have hfz9_2 := Zn BK1221.out 2
   go_wp2_with (first | ((with_reducible refine Zr (f := 39) rfl ?_); refine Yg (some 5) rfl rfl Try.func39 Qa8 rfl #[.slice A0_1 l0_1.length c0_1] rfl Qa2 ?_; (with_reducible refine (r1_Form.calls _ _ l0_1 true _ ?side1 ?side2 A4.out).mono ?_); (case side1 => exact Qe11 (Kd.Ys HR0_1.out HB.out)); (case side2 => exact HC0_1.out); rintro e w' ⟨rfl, ⟨nd, rfl⟩⟩; refine ⟨_, rfl, ?_⟩) | (go_at_call 39; (with_reducible refine (r1_Form.calls _ _ l0_2 true _ ?side1 ?side2 A6.out).mono ?_); (case side1 => repeat (first | exact (Kd.Ys HR0_2.out (Qa0)) | (with_reducible refine Kd.Zu ?_ _) | (with_reducible refine Kd.Zt ?_ _) | (with_reducible refine Kd.Yc ?_))); (case side2 => exact HC0_2.out); rintro e w' ⟨rfl, ⟨nd, rfl⟩⟩))
   go_meet
   case rel => exact ⟨_, (true), Qa5, H', ⟨by first | omega | exact Nat.le_refl _⟩, ⟨Qr12 BK1221.out⟩, ⟨Qa0⟩⟩
  rw [if_neg c8] at H
  have c8b0 : ((l0_2.length : Int) == 0) = false := beq_eq_false_iff_ne.mpr c8
  have c8b1 : ((l0_2.length : Int) != 0) = true := bne_iff_ne.mpr c8
  have c8b2 : ¬ (l0_2 = []) := fun h_ => c8 (by rw [h_]; rfl)
  (first | rw [c8b0] | rw [c8b1] | (simp only [Yi, Yj]; rw [c8b0]) | skip)
  by_cases c10 : a0_0 = true
  ·subst c10
   rw [if_pos rfl] at H
   have H' := Yt.mk H
   clear H
   have hcz11_0 : w3.cell? ⟨gb1221, 0, none⟩ = some (.bool true) := (Zl BK1221.out 0).trans rfl
   have hcz11_1 : w3.cell? ⟨gb1221, 1, none⟩ = some (.slice A0_1 l0_1.length c0_1) := (Zl BK1221.out 1).trans rfl
   have hcz11_2 : w3.cell? ⟨gb1221, 2, none⟩ = some (.slice A0_2 l0_2.length c0_2) := (Zl BK1221.out 2).trans rfl
   have hfz11_0 := Zn BK1221.out 0
   have hfz11_1 := Zn BK1221.out 1
   have hfz11_2 := Zn BK1221.out 2
   go_wp2_with (first | ((with_reducible refine Zr (f := 39) rfl ?_); refine Yg (some 5) rfl rfl Try.func39 Qa8 rfl #[.slice A0_1 l0_1.length c0_1] rfl Qa2 ?_; (with_reducible refine (r1_Form.calls _ _ l0_1 true _ ?side1 ?side2 A4.out).mono ?_); (case side1 => exact Qe11 (Kd.Ys HR0_1.out HB.out)); (case side2 => exact HC0_1.out); rintro e w' ⟨rfl, ⟨nd, rfl⟩⟩; refine ⟨_, rfl, ?_⟩) | (go_at_call 39; (with_reducible refine (r1_Form.calls _ _ l0_2 true _ ?side1 ?side2 A6.out).mono ?_); (case side1 => repeat (first | exact (Kd.Ys HR0_2.out (Qa0)) | (with_reducible refine Kd.Zu ?_ _) | (with_reducible refine Kd.Zt ?_ _) | (with_reducible refine Kd.Yc ?_))); (case side2 => exact HC0_2.out); rintro e w' ⟨rfl, ⟨nd, rfl⟩⟩))
   go_meet
   case rel => exact ⟨_, (((l0_1.length : Int) == 0)), Qa5, H', ⟨by first | omega | exact Nat.le_refl _⟩, ⟨Qr12 BK1221.out⟩, ⟨Qa0⟩⟩
  replace c10 := Bool.eq_false_iff.mpr c10
  subst c10
  rw [if_neg (show ¬ (false = true) by decide)] at H
  have H' := Yt.mk H
  clear H
  have hcz12_0 : w3.cell? ⟨gb1221, 0, none⟩ = some (.bool false) := (Zl BK1221.out 0).trans rfl
  have hcz12_1 : w3.cell? ⟨gb1221, 1, none⟩ = some (.slice A0_1 l0_1.length c0_1) := (Zl BK1221.out 1).trans rfl
  have hcz12_2 : w3.cell? ⟨gb1221, 2, none⟩ = some (.slice A0_2 l0_2.length c0_2) := (Zl BK1221.out 2).trans rfl
  have hfz12_0 := Zn BK1221.out 0
  have hfz12_1 := Zn BK1221.out 1
  have hfz12_2 := Zn BK1221.out 2
  go_wp2_with (first | ((with_reducible refine Zr (f := 39) rfl ?_); refine Yg (some 5) rfl rfl Try.func39 Qa8 rfl #[.slice A0_1 l0_1.length c0_1] rfl Qa2 ?_; (with_reducible refine (r1_Form.calls _ _ l0_1 true _ ?side1 ?side2 A4.out).mono ?_); (case side1 => exact Qe11 (Kd.Ys HR0_1.out HB.out)); (case side2 => exact HC0_1.out); rintro e w' ⟨rfl, ⟨nd, rfl⟩⟩; refine ⟨_, rfl, ?_⟩) | (go_at_call 39; (with_reducible refine (r1_Form.calls _ _ l0_2 true _ ?side1 ?side2 A6.out).mono ?_); (case side1 => repeat (first | exact (Kd.Ys HR0_2.out (Qa0)) | (with_reducible refine Kd.Zu ?_ _) | (with_reducible refine Kd.Zt ?_ _) | (with_reducible refine Kd.Yc ?_))); (case side2 => exact HC0_2.out); rintro e w' ⟨rfl, ⟨nd, rfl⟩⟩))
  go_meet
  case rel => exact ⟨_, (false), Qa5, H', ⟨by first | omega | exact Nat.le_refl _⟩, ⟨Qr12 BK1221.out⟩, ⟨Qa0⟩⟩
 case rest =>
  clear HC2
  try clear c1; try clear p2; try clear c3; try clear c5; try clear c7; try clear c8; try clear c8b0; try clear c8b1; try clear c8b2; try clear c10; try clear hcz11_0; try clear hcz11_1; try clear hcz11_2; try clear hcz12_0; try clear hcz12_1; try clear hcz12_2; try clear hcz13_0; try clear hcz13_1; try clear hcz13_2; try clear hcz14_0; try clear hcz14_1; try clear hcz14_2; try clear hcz9_0; try clear hcz9_1; try clear hcz9_2; try clear hfz11_0; try clear hfz11_1; try clear hfz11_2; try clear hfz12_0; try clear hfz12_1; try clear hfz12_2; try clear hfz13_0; try clear hfz13_1; try clear hfz13_2; try clear hfz14_0; try clear hfz14_1; try clear hfz14_2; try clear hfz9_0; try clear hfz9_1; try clear hfz9_2
  obtain ⟨kq, x28_1, rfl, HA, HJ1, BK1221, HB⟩ := hcut
  cases kq with
  | zero => exact absurd HA.out (by simp [r2_Form.j0])
  | succ kj1 =>
   have H := HA.out
   clear HA
   simp only [r2_Form.j0] at H
   by_cases c15 : x28_1 = true
   ·subst c15
    rw [if_pos rfl] at H
    obtain rfl := Option.some.inj H
    go_wp2
    go_ret
    exact ⟨Qa4, Qa0⟩
   replace c15 := Bool.eq_false_iff.mpr c15
   subst c15
   rw [if_neg (show ¬ (false = true) by decide)] at H
   replace H := Option.bind_eq_some_iff.mp H
   obtain ⟨t1224, A160, H⟩ := H
   try dsimp only at H
   have A16 := Yt.mk A160
   clear A160
   obtain ⟨y1227, hy1227⟩ : ∃ y_ : List Int, y_ = (([1] : List Int)) := ⟨_, rfl⟩
   replace H : ((r1_Same.f kj1 t1224 y1227).bind fun t1230 => (some t1230)) = some r := Qh hy1227 H
   have Ny1227 := Yt.mk hy1227
   clear hy1227
   replace H := Option.bind_eq_some_iff.mp H
   obtain ⟨t1230, A170, H⟩ := H
   replace H : (some t1230) = some r := H
   have A17 := Yt.mk A170
   clear A170
   obtain rfl := Option.some.inj H
   have hcz18_0 : wc.cell? ⟨gb1221, 0, none⟩ = some (.bool a0_0) := (Zl BK1221.out 0).trans rfl
   have hcz18_1 : wc.cell? ⟨gb1221, 1, none⟩ = some (.slice A0_1 l0_1.length c0_1) := (Zl BK1221.out 1).trans rfl
   have hcz18_2 : wc.cell? ⟨gb1221, 2, none⟩ = some (.slice A0_2 l0_2.length c0_2) := (Zl BK1221.out 2).trans rfl
   have hfz18_0 := Zn BK1221.out 0
   have hfz18_1 := Zn BK1221.out 1
   have hfz18_2 := Zn BK1221.out 2
   go_wp2_with (first | ((with_reducible refine Zr (f := 41) rfl ?_); refine Yg (some 33) rfl rfl Try.func41 Qa8 rfl #[.slice A0_1 l0_1.length c0_1, .slice A0_2 l0_2.length c0_2] rfl Qa2 ?_; (with_reducible refine (r1_Common.calls kj1 _ _ l0_1 _ _ l0_2 t1224 _ ?side1 ?side2 ?side3 ?side4 A16.out).mono ?_); (case side1 => exact Qe11 (Kd.Ys HR0_1.out HB.out)); (case side2 => exact HC0_1.out); (case side3 => exact Qe11 (Kd.Ys HR0_2.out HB.out)); (case side4 => exact HC0_2.out); rintro e w19 ⟨v1225, rfl, ho0, hb⟩; refine ⟨_, rfl, ?_⟩; have HO1226 := Yt.mk (Kd.Yb ho0 (Zk (Qa0))); replace BK1221 := Yt.mk (Zq (g := gb1221) (o := .cells #[.bool a0_0, .slice A0_1 l0_1.length c0_1, .slice A0_2 l0_2.length c0_2] 50 (0, 0)) (Qr12 BK1221.out) hb); replace HB := Yt.mk (Zm (Qa0) hb); (try clear hb); (try clear ho0)) | ((with_reducible refine Yk (N := 34) rfl ?_); (try (refine gate_guard (by rfl) ?_; dsimp only)); refine Kd.R_lit (Kd.int .u32) _ 47 ?hg (N := 34) ?hd (xs := ([1] : List Int)) (inner := [.int .u32 1]) (ok := fun _ => True) (okp := fun _ => True) ?hr ?hp (fun _ hk => hk) trivial (Below.refl _ _) (Nat.le_refl _) (by simp) ?_; (case hd => rfl); (case hg => rfl); (case hr => exact Qa9); (case hp => exact (Reps.one (show Kd.M (Kd.int .u32) _ _ _ 1 [.int .u32 1] from rfl) (Reps.none _ _))); intro v1228 w20 ho21 hb hg_ hnew_; clear hg_ hnew_; (first | rw [← Ny1227.out] at ho21 | (simp only [Int.reduceToNat] at ho21; rw [← Ny1227.out] at ho21)); have HO1229 := Yt.mk (Kd.Yb (Kd.Ya ho21 (Kd.R_lt (Qr1 HO1226.out))) (Zk (Qa0))); replace HO1226 := Yt.mk (Kd.Yf (Qr1 HO1226.out) (Kd.Zw ho21) hb); replace BK1221 := Yt.mk (Zq (g := gb1221) (o := .cells #[.bool a0_0, .slice A0_1 l0_1.length c0_1, .slice A0_2 l0_2.length c0_2] 50 (0, 0)) (Qr12 BK1221.out) hb); replace HB := Yt.mk (Zm (Qa0) hb); clear hb ho21; obtain ⟨Ao22, co22, eo22⟩ := Kd.Zx HO1226.out; subst eo22; obtain ⟨Ao23, co23, eo23⟩ := Kd.Zx HO1229.out; subst eo23) | ((with_reducible refine Zr (f := 25) rfl ?_); refine Yg (some 35) rfl rfl Try.func25 Qa8 rfl #[.slice Ao22 t1224.length co22, .slice Ao23 y1227.length co23] rfl Qa2 ?_; (with_reducible refine (r1_Same.calls kj1 _ _ t1224 _ _ y1227 t1230 _ ?side1 ?side2 ?side3 ?side4 A17.out).mono ?_); (case side1 => exact Qe11 (Kd.Zs HO1226.out).2.2); (case side2 => exact (Kd.Zs HO1226.out).2.1); (case side3 => exact Qe11 (Kd.Zs HO1229.out).2.2); (case side4 => exact (Kd.Zs HO1229.out).2.1); rintro e w' ⟨rfl, ⟨nd, rfl⟩⟩; refine ⟨_, rfl, ?_⟩))
   go_ret
   exact ⟨Qa4, Qa0⟩
def r2_Same.f (k : Nat) (a0_0 : Bool) (l0_1 : List Int) (l0_2 : List Int) (a1_0 : Bool) (l1_1 : List Int) (l1_2 : List Int) : Option (Bool) := if (a0_0 == a1_0) = true then ((r1_Same.f k l0_1 l1_1).bind fun t1233 => (if t1233 = true then ((r1_Same.f k l0_2 l1_2).bind fun t1234 => (some t1234)) else (some false))) else (some false)
theorem r2_Same.calls (k : Nat) (a0_0 : Bool) (A0_1 : Option Addr) (c0_1 : Nat) (l0_1 : List Int) (A0_2 : Option Addr) (c0_2 : Nat) (l0_2 : List Int) (a1_0 : Bool) (A1_1 : Option Addr) (c1_1 : Nat) (l1_1 : List Int) (A1_2 : Option Addr) (c1_2 : Nat) (l1_2 : List Int) (r : Bool) (w : World) (hr0_1 : Kd.C (Kd.int .u32) w A0_1 l0_1.length l0_1) (hc0_1 : l0_1.length ≤ c0_1) (hr0_2 : Kd.C (Kd.int .u32) w A0_2 l0_2.length l0_2) (hc0_2 : l0_2.length ≤ c0_2) (hr1_1 : Kd.C (Kd.int .u32) w A1_1 l1_1.length l1_1) (hc1_1 : l1_1.length ≤ c1_1) (hr1_2 : Kd.C (Kd.int .u32) w A1_2 l1_2.length l1_2) (hc1_2 : l1_2.length ≤ c1_2) (h : r2_Same.f k a0_0 l0_1 l0_2 a1_0 l1_1 l1_2 = some r) :
  Calls Try.prog 54 #[.agg #[.bool a0_0, .slice A0_1 l0_1.length c0_1, .slice A0_2 l0_2.length c0_2], .agg #[.bool a1_0, .slice A1_1 l1_1.length c1_1, .slice A1_2 l1_2.length c1_2]] w fun e w' => e = .returned (.bool r) ∧ Below w.heap.size w w' := by
 have hu50 := Try.underlying50
 have HR0_1 := Yt.mk hr0_1
 have HC0_1 := Yt.mk hc0_1
 clear hr0_1 hc0_1
 have HR0_2 := Yt.mk hr0_2
 have HC0_2 := Yt.mk hc0_2
 clear hr0_2 hc0_2
 have HR1_1 := Yt.mk hr1_1
 have HC1_1 := Yt.mk hc1_1
 clear hr1_1 hc1_1
 have HR1_2 := Yt.mk hr1_2
 have HC1_2 := Yt.mk hc1_2
 clear hr1_2 hc1_2
 have HB := Yt.mk (Below.refl w.heap.size w)
 unfold r2_Same.f at h
 have H := h
 clear h
 by_cases c3 : (a0_0 == a1_0) = true
 rotate_left
 ·rw [if_neg c3] at H
  have c3b0 : (a0_0 == a1_0) = false := by simpa using c3
  (try (have c3b1 : decide (a0_0 = a1_0) = false := by simpa using c3))
  (try (have c3b2 : (a0_0 == a1_0) = false := by simpa using c3))
  (try (have c3b3 : ¬ (a0_0 = a1_0) := by simpa using c3))
  clear c3
  obtain rfl := Option.some.inj H
  go_enter Try.func54, Try.ntmps54
  go_wp2_with (first | ((with_reducible refine Yk (N := 2) rfl ?_); refine Yo ?hg (N := 2) ?hd (cs := #[.bool a0_0, .slice A0_1 l0_1.length c0_1, .slice A0_2 l0_2.length c0_2]) (t := 50) ?hr ?_; (case hd => rfl); (case hg => rfl); (case hr => exact Qa9); intro gb1231 hg w17 hbox hb; have BK1231 := Yt.mk (hbox); have GW1231 := Yt.mk ((by rw [hg]; exact (Zk (Qa0)) : w.heap.size ≤ gb1231)); have GE1231 := Yt.mk ((by rw [hg]; exact (Zk (Qa0)) : w.heap.size ≤ gb1231)); replace HB := Yt.mk (Zm (Qa0) hb); clear hb hbox hg) | ((with_reducible refine Yk (N := 3) rfl ?_); refine Yo ?hg (N := 3) ?hd (cs := #[.bool a1_0, .slice A1_1 l1_1.length c1_1, .slice A1_2 l1_2.length c1_2]) (t := 50) ?hr ?_; (case hd => rfl); (case hg => rfl); (case hr => exact Qa9); intro gb1232 hg w18 hbox hb; have BK1232 := Yt.mk (hbox); have GW1232 := Yt.mk ((by rw [hg]; exact (Zk (Qa0)) : w.heap.size ≤ gb1232)); have GE1232 := Yt.mk ((by rw [hg]; exact (Zk (Qa0)) : w.heap.size ≤ gb1232)); replace HB := Yt.mk (Zm (Qa0) hb); have NB1231_1232 := Yt.mk ((by rw [hg]; exact Nat.ne_of_lt (blk_lt (g := gb1231) (o := .cells #[.bool a0_0, .slice A0_1 l0_1.length c0_1, .slice A0_2 l0_2.length c0_2] 50 (0, 0)) (Qr12 BK1231.out)) : gb1231 ≠ gb1232)); have NB1232_1231 := Yt.mk ((by rw [hg]; exact Nat.ne_of_gt (blk_lt (g := gb1231) (o := .cells #[.bool a0_0, .slice A0_1 l0_1.length c0_1, .slice A0_2 l0_2.length c0_2] 50 (0, 0)) (Qr12 BK1231.out)) : gb1232 ≠ gb1231)); replace BK1231 := Yt.mk (Zq (g := gb1231) (o := .cells #[.bool a0_0, .slice A0_1 l0_1.length c0_1, .slice A0_2 l0_2.length c0_2] 50 (0, 0)) (Qr12 BK1231.out) hb); clear hb hbox hg; have hnb19 := NB1231_1232.out; have hnc19 := NB1232_1231.out; have hcz20_0 : w18.cell? ⟨gb1231, 0, none⟩ = some (.bool a0_0) := (Zl BK1231.out 0).trans rfl; have hcz20_1 : w18.cell? ⟨gb1231, 1, none⟩ = some (.slice A0_1 l0_1.length c0_1) := (Zl BK1231.out 1).trans rfl; have hcz20_2 : w18.cell? ⟨gb1231, 2, none⟩ = some (.slice A0_2 l0_2.length c0_2) := (Zl BK1231.out 2).trans rfl; have hfz20_0 := Zn BK1231.out 0; have hfz20_1 := Zn BK1231.out 1; have hfz20_2 := Zn BK1231.out 2; have hcz21_0 : w18.cell? ⟨gb1232, 0, none⟩ = some (.bool a1_0) := (Zl BK1232.out 0).trans rfl; have hcz21_1 : w18.cell? ⟨gb1232, 1, none⟩ = some (.slice A1_1 l1_1.length c1_1) := (Zl BK1232.out 1).trans rfl; have hcz21_2 : w18.cell? ⟨gb1232, 2, none⟩ = some (.slice A1_2 l1_2.length c1_2) := (Zl BK1232.out 2).trans rfl; have hfz21_0 := Zn BK1232.out 0; have hfz21_1 := Zn BK1232.out 1; have hfz21_2 := Zn BK1232.out 2))
  go_ret
  exact ⟨Qa4, Qa0⟩
 rw [if_pos c3] at H
 have c3b0 : (a0_0 == a1_0) = true := c3
 (try (have c3b1 : decide (a0_0 = a1_0) = true := by simpa using c3))
 (try (have c3b2 : (a0_0 == a1_0) = true := by simpa using c3))
 clear c3
 replace H := Option.bind_eq_some_iff.mp H
 obtain ⟨t1233, A40, H⟩ := H
 try dsimp only at H
 have A4 := Yt.mk A40
 clear A40
 by_cases c5 : t1233 = true
 rotate_left
 ·replace c5 := Bool.eq_false_iff.mpr c5
  subst c5
  rw [if_neg (show ¬ (false = true) by decide)] at H
  obtain rfl := Option.some.inj H
  go_enter Try.func54, Try.ntmps54
  go_wp2_with (first | ((with_reducible refine Yk (N := 2) rfl ?_); refine Yo ?hg (N := 2) ?hd (cs := #[.bool a0_0, .slice A0_1 l0_1.length c0_1, .slice A0_2 l0_2.length c0_2]) (t := 50) ?hr ?_; (case hd => rfl); (case hg => rfl); (case hr => exact Qa9); intro gb1231 hg w12 hbox hb; have BK1231 := Yt.mk (hbox); have GW1231 := Yt.mk ((by rw [hg]; exact (Zk (Qa0)) : w.heap.size ≤ gb1231)); have GE1231 := Yt.mk ((by rw [hg]; exact (Zk (Qa0)) : w.heap.size ≤ gb1231)); replace HB := Yt.mk (Zm (Qa0) hb); clear hb hbox hg) | ((with_reducible refine Yk (N := 3) rfl ?_); refine Yo ?hg (N := 3) ?hd (cs := #[.bool a1_0, .slice A1_1 l1_1.length c1_1, .slice A1_2 l1_2.length c1_2]) (t := 50) ?hr ?_; (case hd => rfl); (case hg => rfl); (case hr => exact Qa9); intro gb1232 hg w13 hbox hb; have BK1232 := Yt.mk (hbox); have GW1232 := Yt.mk ((by rw [hg]; exact (Zk (Qa0)) : w.heap.size ≤ gb1232)); have GE1232 := Yt.mk ((by rw [hg]; exact (Zk (Qa0)) : w.heap.size ≤ gb1232)); replace HB := Yt.mk (Zm (Qa0) hb); have NB1231_1232 := Yt.mk ((by rw [hg]; exact Nat.ne_of_lt (blk_lt (g := gb1231) (o := .cells #[.bool a0_0, .slice A0_1 l0_1.length c0_1, .slice A0_2 l0_2.length c0_2] 50 (0, 0)) (Qr12 BK1231.out)) : gb1231 ≠ gb1232)); have NB1232_1231 := Yt.mk ((by rw [hg]; exact Nat.ne_of_gt (blk_lt (g := gb1231) (o := .cells #[.bool a0_0, .slice A0_1 l0_1.length c0_1, .slice A0_2 l0_2.length c0_2] 50 (0, 0)) (Qr12 BK1231.out)) : gb1232 ≠ gb1231)); replace BK1231 := Yt.mk (Zq (g := gb1231) (o := .cells #[.bool a0_0, .slice A0_1 l0_1.length c0_1, .slice A0_2 l0_2.length c0_2] 50 (0, 0)) (Qr12 BK1231.out) hb); clear hb hbox hg; have hnb14 := NB1231_1232.out; have hnc14 := NB1232_1231.out; have hcz15_0 : w13.cell? ⟨gb1231, 0, none⟩ = some (.bool a0_0) := (Zl BK1231.out 0).trans rfl; have hcz15_1 : w13.cell? ⟨gb1231, 1, none⟩ = some (.slice A0_1 l0_1.length c0_1) := (Zl BK1231.out 1).trans rfl; have hcz15_2 : w13.cell? ⟨gb1231, 2, none⟩ = some (.slice A0_2 l0_2.length c0_2) := (Zl BK1231.out 2).trans rfl; have hfz15_0 := Zn BK1231.out 0; have hfz15_1 := Zn BK1231.out 1; have hfz15_2 := Zn BK1231.out 2; have hcz16_0 : w13.cell? ⟨gb1232, 0, none⟩ = some (.bool a1_0) := (Zl BK1232.out 0).trans rfl; have hcz16_1 : w13.cell? ⟨gb1232, 1, none⟩ = some (.slice A1_1 l1_1.length c1_1) := (Zl BK1232.out 1).trans rfl; have hcz16_2 : w13.cell? ⟨gb1232, 2, none⟩ = some (.slice A1_2 l1_2.length c1_2) := (Zl BK1232.out 2).trans rfl; have hfz16_0 := Zn BK1232.out 0; have hfz16_1 := Zn BK1232.out 1; have hfz16_2 := Zn BK1232.out 2) | (go_at_call 25; (with_reducible refine (r1_Same.calls k _ _ l0_1 _ _ l1_1 false _ ?side1 ?side2 ?side3 ?side4 A4.out).mono ?_); (case side1 => exact Qe11 (Kd.Ys HR0_1.out HB.out)); (case side2 => exact HC0_1.out); (case side3 => exact Qe11 (Kd.Ys HR1_1.out HB.out)); (case side4 => exact HC1_1.out); rintro e w' ⟨rfl, ⟨nd, rfl⟩⟩))
  go_ret
  exact ⟨Qa4, Qa0⟩
 subst c5
 rw [if_pos rfl] at H
 replace H := Option.bind_eq_some_iff.mp H
 obtain ⟨t1234, A60, H⟩ := H
 replace H : (some t1234) = some r := H
 have A6 := Yt.mk A60
 clear A60
 obtain rfl := Option.some.inj H
 go_enter Try.func54, Try.ntmps54
 go_wp2_with (first | ((with_reducible refine Yk (N := 2) rfl ?_); refine Yo ?hg (N := 2) ?hd (cs := #[.bool a0_0, .slice A0_1 l0_1.length c0_1, .slice A0_2 l0_2.length c0_2]) (t := 50) ?hr ?_; (case hd => rfl); (case hg => rfl); (case hr => exact Qa9); intro gb1231 hg w7 hbox hb; have BK1231 := Yt.mk (hbox); have GW1231 := Yt.mk ((by rw [hg]; exact (Zk (Qa0)) : w.heap.size ≤ gb1231)); have GE1231 := Yt.mk ((by rw [hg]; exact (Zk (Qa0)) : w.heap.size ≤ gb1231)); replace HB := Yt.mk (Zm (Qa0) hb); clear hb hbox hg) | ((with_reducible refine Yk (N := 3) rfl ?_); refine Yo ?hg (N := 3) ?hd (cs := #[.bool a1_0, .slice A1_1 l1_1.length c1_1, .slice A1_2 l1_2.length c1_2]) (t := 50) ?hr ?_; (case hd => rfl); (case hg => rfl); (case hr => exact Qa9); intro gb1232 hg w8 hbox hb; have BK1232 := Yt.mk (hbox); have GW1232 := Yt.mk ((by rw [hg]; exact (Zk (Qa0)) : w.heap.size ≤ gb1232)); have GE1232 := Yt.mk ((by rw [hg]; exact (Zk (Qa0)) : w.heap.size ≤ gb1232)); replace HB := Yt.mk (Zm (Qa0) hb); have NB1231_1232 := Yt.mk ((by rw [hg]; exact Nat.ne_of_lt (blk_lt (g := gb1231) (o := .cells #[.bool a0_0, .slice A0_1 l0_1.length c0_1, .slice A0_2 l0_2.length c0_2] 50 (0, 0)) (Qr12 BK1231.out)) : gb1231 ≠ gb1232)); have NB1232_1231 := Yt.mk ((by rw [hg]; exact Nat.ne_of_gt (blk_lt (g := gb1231) (o := .cells #[.bool a0_0, .slice A0_1 l0_1.length c0_1, .slice A0_2 l0_2.length c0_2] 50 (0, 0)) (Qr12 BK1231.out)) : gb1232 ≠ gb1231)); replace BK1231 := Yt.mk (Zq (g := gb1231) (o := .cells #[.bool a0_0, .slice A0_1 l0_1.length c0_1, .slice A0_2 l0_2.length c0_2] 50 (0, 0)) (Qr12 BK1231.out) hb); clear hb hbox hg; have hnb9 := NB1231_1232.out; have hnc9 := NB1232_1231.out; have hcz10_0 : w8.cell? ⟨gb1231, 0, none⟩ = some (.bool a0_0) := (Zl BK1231.out 0).trans rfl; have hcz10_1 : w8.cell? ⟨gb1231, 1, none⟩ = some (.slice A0_1 l0_1.length c0_1) := (Zl BK1231.out 1).trans rfl; have hcz10_2 : w8.cell? ⟨gb1231, 2, none⟩ = some (.slice A0_2 l0_2.length c0_2) := (Zl BK1231.out 2).trans rfl; have hfz10_0 := Zn BK1231.out 0; have hfz10_1 := Zn BK1231.out 1; have hfz10_2 := Zn BK1231.out 2; have hcz11_0 : w8.cell? ⟨gb1232, 0, none⟩ = some (.bool a1_0) := (Zl BK1232.out 0).trans rfl; have hcz11_1 : w8.cell? ⟨gb1232, 1, none⟩ = some (.slice A1_1 l1_1.length c1_1) := (Zl BK1232.out 1).trans rfl; have hcz11_2 : w8.cell? ⟨gb1232, 2, none⟩ = some (.slice A1_2 l1_2.length c1_2) := (Zl BK1232.out 2).trans rfl; have hfz11_0 := Zn BK1232.out 0; have hfz11_1 := Zn BK1232.out 1; have hfz11_2 := Zn BK1232.out 2) | (go_at_call 25; (with_reducible refine (r1_Same.calls k _ _ l0_1 _ _ l1_1 true _ ?side1 ?side2 ?side3 ?side4 A4.out).mono ?_); (case side1 => exact Qe11 (Kd.Ys HR0_1.out HB.out)); (case side2 => exact HC0_1.out); (case side3 => exact Qe11 (Kd.Ys HR1_1.out HB.out)); (case side4 => exact HC1_1.out); rintro e w' ⟨rfl, ⟨nd, rfl⟩⟩; clear A4) | (go_at_call 25; (with_reducible refine (r1_Same.calls k _ _ l0_2 _ _ l1_2 t1234 _ ?side1 ?side2 ?side3 ?side4 A6.out).mono ?_); (case side1 => repeat (first | exact (Kd.Ys HR0_2.out (Qa0)) | (with_reducible refine Kd.Zu ?_ _) | (with_reducible refine Kd.Zt ?_ _) | (with_reducible refine Kd.Yc ?_))); (case side2 => exact HC0_2.out); (case side3 => repeat (first | exact (Kd.Ys HR1_2.out (Qa0)) | (with_reducible refine Kd.Zu ?_ _) | (with_reducible refine Kd.Zt ?_ _) | (with_reducible refine Kd.Yc ?_))); (case side4 => exact HC1_2.out); rintro e w' ⟨rfl, ⟨nd, rfl⟩⟩; clear A6))
 go_ret
 exact ⟨Qa4, Qa0⟩
def r2_Of.f (k : Nat) (a0 : Int) : Option (Bool × List Int × List Int) := if a0 < 0 then ((r2_Make.f k true (([(Int.tmod (IntKind.u64.wrap (-(IntKind.u64.wrap (a0)))) 4294967296) % 4294967296, (IntKind.u64.wrap (Int.tdiv (IntKind.u64.wrap (-(IntKind.u64.wrap (a0)))) 4294967296)) % 4294967296] : List Int)) (([1] : List Int))).bind fun bt1242 => (some (bt1242.1, bt1242.2.1, bt1242.2.2.1))) else ((r2_Make.f k false (([(Int.tmod (IntKind.u64.wrap (a0)) 4294967296) % 4294967296, (IntKind.u64.wrap (Int.tdiv (IntKind.u64.wrap (a0)) 4294967296)) % 4294967296] : List Int)) (([1] : List Int))).bind fun bt1257 => (some (bt1257.1, bt1257.2.1, bt1257.2.2.1)))
theorem r2_Of.calls (k : Nat) (a0 : Int) (r1 : Bool) (r2 : List Int) (r3 : List Int) (w : World) (h : r2_Of.f k a0 = some (r1, r2, r3)) :
  Calls Try.prog 56 #[.int .i64 a0] w fun e w' => ∃ v1_ v2_ : Value, e = .returned (.agg #[.bool r1, v1_, v2_]) ∧ Kd.R (Kd.int .u32) 47 w' w.heap.size (fun k_ => some k_ ≠ (v2_ : Value).ownBlock) v1_ r2 ∧ Kd.R (Kd.int .u32) 47 w' w.heap.size (fun k_ => some k_ ≠ (v1_ : Value).ownBlock) v2_ r3 ∧ Below w.heap.size w w' := by
 have hu50 := Try.underlying50
 have HB := Yt.mk (Below.refl w.heap.size w)
 unfold r2_Of.f at h
 have H := h
 clear h
 by_cases c2 : a0 < 0
 ·rw [if_pos c2] at H
  have c2b0 : decide (a0 < 0) = true := decide_eq_true c2
  clear c2
  obtain ⟨y1236, hy1236⟩ : ∃ y_ : List Int, y_ = (([(Int.tmod (IntKind.u64.wrap (-(IntKind.u64.wrap (a0)))) 4294967296) % 4294967296, (IntKind.u64.wrap (Int.tdiv (IntKind.u64.wrap (-(IntKind.u64.wrap (a0)))) 4294967296)) % 4294967296] : List Int)) := ⟨_, rfl⟩
  replace H : ((r2_Make.f k true y1236 (([1] : List Int))).bind fun bt1242 => (some (bt1242.1, bt1242.2.1, bt1242.2.2.1))) = some (r1, r2, r3) := Qh hy1236 H
  have Ny1236 := Yt.mk hy1236
  clear hy1236
  obtain ⟨y1239, hy1239⟩ : ∃ y_ : List Int, y_ = (([1] : List Int)) := ⟨_, rfl⟩
  replace H : ((r2_Make.f k true y1236 y1239).bind fun bt1242 => (some (bt1242.1, bt1242.2.1, bt1242.2.2.1))) = some (r1, r2, r3) := Qh hy1239 H
  have Ny1239 := Yt.mk hy1239
  clear hy1239
  replace H := Option.bind_eq_some_iff.mp H
  obtain ⟨⟨t1242, t1243, t1246, t1249⟩, A30, H⟩ := H
  replace H : (some (t1242, t1243, t1246)) = some (r1, r2, r3) := H
  have A3 := Yt.mk A30
  clear A30
  simp only [Option.some.injEq, Prod.mk.injEq] at H
  obtain ⟨rfl, rfl, rfl⟩ := H
  go_enter Try.func56, Try.ntmps56
  go_wp2_with (first | ((with_reducible refine Yk (N := 2) rfl ?_); refine Yo ?hg (N := 2) ?hd (cs := #[.bool false, .slice none 0 0, .slice none 0 0]) (t := 50) ?hr ?_; (case hd => rfl); (case hg => rfl); (case hr => exact Qa9); intro gb1235 hg w4 hbox hb; have BK1235 := Yt.mk (hbox); have GW1235 := Yt.mk ((by rw [hg]; exact (Zk (Qa0)) : w.heap.size ≤ gb1235)); have GE1235 := Yt.mk ((by rw [hg]; exact (Zk (Qa0)) : w.heap.size ≤ gb1235)); replace HB := Yt.mk (Zm (Qa0) hb); clear hb hbox hg) | ((with_reducible refine Yk (N := 21) rfl ?_); refine Kd.R_lit (Kd.int .u32) _ 47 ?hg (N := 21) ?hd (xs := ([(Int.tmod (IntKind.u64.wrap (-(IntKind.u64.wrap (a0)))) 4294967296) % 4294967296, (IntKind.u64.wrap (Int.tdiv (IntKind.u64.wrap (-(IntKind.u64.wrap (a0)))) 4294967296)) % 4294967296] : List Int)) (inner := [.int .u32 ((Int.tmod (IntKind.u64.wrap (-(IntKind.u64.wrap (a0)))) 4294967296) % 4294967296), .int .u32 ((IntKind.u64.wrap (Int.tdiv (IntKind.u64.wrap (-(IntKind.u64.wrap (a0)))) 4294967296)) % 4294967296)]) (ok := fun _ => True) (okp := fun _ => True) ?hr ?hp (fun _ hk => hk) trivial (Below.refl _ _) (Nat.le_refl _) (by simp) ?_; (case hd => rfl); (case hg => rfl); (case hr => exact Qa9); (case hp => exact (Reps.one (show Kd.M (Kd.int .u32) _ _ _ ((Int.tmod (IntKind.u64.wrap (-(IntKind.u64.wrap (a0)))) 4294967296) % 4294967296) [.int .u32 ((Int.tmod (IntKind.u64.wrap (-(IntKind.u64.wrap (a0)))) 4294967296) % 4294967296)] from rfl) (Reps.one (show Kd.M (Kd.int .u32) _ _ _ ((IntKind.u64.wrap (Int.tdiv (IntKind.u64.wrap (-(IntKind.u64.wrap (a0)))) 4294967296)) % 4294967296) [.int .u32 ((IntKind.u64.wrap (Int.tdiv (IntKind.u64.wrap (-(IntKind.u64.wrap (a0)))) 4294967296)) % 4294967296)] from rfl) (Reps.none _ _)))); intro v1237 w5 ho6 hb hg_ hnew_; clear hg_ hnew_; (first | rw [← Ny1236.out] at ho6 | (simp only [Int.reduceToNat] at ho6; rw [← Ny1236.out] at ho6)); have HO1238 := Yt.mk (Kd.Yb ho6 (Zk (Qa0))); replace BK1235 := Yt.mk (Zq (g := gb1235) (o := .cells #[.bool false, .slice none 0 0, .slice none 0 0] 50 (0, 0)) (Qr12 BK1235.out) hb); replace HB := Yt.mk (Zm (Qa0) hb); clear hb ho6) | ((with_reducible refine Yk (N := 22) rfl ?_); refine Kd.R_lit (Kd.int .u32) _ 47 ?hg (N := 22) ?hd (xs := ([1] : List Int)) (inner := [.int .u32 1]) (ok := fun _ => True) (okp := fun _ => True) ?hr ?hp (fun _ hk => hk) trivial (Below.refl _ _) (Nat.le_refl _) (by simp) ?_; (case hd => rfl); (case hg => rfl); (case hr => exact Qa9); (case hp => exact (Reps.one (show Kd.M (Kd.int .u32) _ _ _ 1 [.int .u32 1] from rfl) (Reps.none _ _))); intro v1240 w7 ho8 hb hg_ hnew_; clear hg_ hnew_; (first | rw [← Ny1239.out] at ho8 | (simp only [Int.reduceToNat] at ho8; rw [← Ny1239.out] at ho8)); have HO1241 := Yt.mk (Kd.Yb (Kd.Ya ho8 (Kd.R_lt (Qr1 HO1238.out))) (Zk (Qa0))); replace HO1238 := Yt.mk (Kd.Yf (Qr1 HO1238.out) (Kd.Zw ho8) hb); replace BK1235 := Yt.mk (Zq (g := gb1235) (o := .cells #[.bool false, .slice none 0 0, .slice none 0 0] 50 (0, 0)) (Qr12 BK1235.out) hb); replace HB := Yt.mk (Zm (Qa0) hb); clear hb ho8; obtain ⟨Ao9, co9, eo9⟩ := Kd.Zx HO1238.out; subst eo9; obtain ⟨Ao10, co10, eo10⟩ := Kd.Zx HO1241.out; subst eo10) | ((with_reducible refine Zr (f := 49) rfl ?_); refine Yg (some 23) rfl rfl Try.func49 Qa8 rfl #[.bool true, .slice Ao9 y1236.length co9, .slice Ao10 y1239.length co10] rfl Qa2 ?_; (with_reducible refine (r2_Make.calls k true _ _ y1236 _ _ y1239 t1242 t1243 t1246 t1249 _ ?side1 ?side2 ?side3 ?side4 A3.out).mono ?_); (case side1 => exact Qe11 (Kd.Zs HO1238.out).2.2); (case side2 => exact (Kd.Zs HO1238.out).2.1); (case side3 => exact Qe11 (Kd.Zs HO1241.out).2.2); (case side4 => exact (Kd.Zs HO1241.out).2.1); rintro e w11 ⟨v1244, v1247, rfl, ho0, ho1, hb⟩; refine ⟨_, rfl, ?_⟩; have HO1245 := Yt.mk (Kd.Yb (Kd.Ya (Kd.Ya ho0 (Kd.R_lt (Qr1 HO1238.out))) (Kd.R_lt (Qr1 HO1241.out))) (Zk (Qa0))); have HO1248 := Yt.mk (Kd.Yb (Kd.Ya (Kd.Ya ho1 (Kd.R_lt (Qr1 HO1238.out))) (Kd.R_lt (Qr1 HO1241.out))) (Zk (Qa0))); replace HO1238 := Yt.mk (Kd.Zv (Kd.Yl (Kd.Yl (Kd.R_old (Qr1 HO1238.out) hb) (Kd.Zw ho0)) (Kd.Zw ho1)) (fun _ h_ => h_.1)); replace HO1241 := Yt.mk (Kd.Zv (Kd.Yl (Kd.Yl (Kd.R_old (Qr1 HO1241.out) hb) (Kd.Zw ho0)) (Kd.Zw ho1)) (fun _ h_ => h_.1)); replace BK1235 := Yt.mk (Zq (g := gb1235) (o := .cells #[.bool false, .slice none 0 0, .slice none 0 0] 50 (0, 0)) (Qr12 BK1235.out) hb); replace HB := Yt.mk (Zm (Qa0) hb); (try clear hb); (try clear ho0); (try clear ho1)) | ((with_reducible refine Yk (N := 4) rfl ?_); refine Yo ?hg (N := 4) ?hd (cs := #[.bool false, .slice none 0 0, .slice none 0 0]) (t := 50) ?hr ?_; (case hd => rfl); (case hg => rfl); (case hr => exact Qa9); intro gb1250 hg w12 hbox hb; replace HO1238 := Yt.mk (Kd.Yd (Qr1 HO1238.out) hb); replace HO1241 := Yt.mk (Kd.Yd (Qr1 HO1241.out) hb); replace HO1245 := Yt.mk (Kd.Yd (Qr1 HO1245.out) hb); replace HO1248 := Yt.mk (Kd.Yd (Qr1 HO1248.out) hb); have BK1250 := Yt.mk (hbox); have GW1250 := Yt.mk ((by rw [hg]; exact (Zk (Qa0)) : w.heap.size ≤ gb1250)); have GE1250 := Yt.mk ((by rw [hg]; exact (Zk (Qa0)) : w.heap.size ≤ gb1250)); replace HB := Yt.mk (Zm (Qa0) hb); have NB1235_1250 := Yt.mk ((by rw [hg]; exact Nat.ne_of_lt (blk_lt (g := gb1235) (o := .cells #[.bool false, .slice none 0 0, .slice none 0 0] 50 (0, 0)) (Qr12 BK1235.out)) : gb1235 ≠ gb1250)); have NB1250_1235 := Yt.mk ((by rw [hg]; exact Nat.ne_of_gt (blk_lt (g := gb1235) (o := .cells #[.bool false, .slice none 0 0, .slice none 0 0] 50 (0, 0)) (Qr12 BK1235.out)) : gb1250 ≠ gb1235)); replace BK1235 := Yt.mk (Zq (g := gb1235) (o := .cells #[.bool false, .slice none 0 0, .slice none 0 0] 50 (0, 0)) (Qr12 BK1235.out) hb); clear hb hbox hg; have hnb13 := NB1250_1235.out; have hnc13 := NB1235_1250.out; have hcz14_0 : w12.cell? ⟨gb1250, 0, none⟩ = some (.bool false) := (Zl BK1250.out 0).trans rfl; have hcz14_1 : w12.cell? ⟨gb1250, 1, none⟩ = some (.slice none 0 0) := (Zl BK1250.out 1).trans rfl; have hcz14_2 : w12.cell? ⟨gb1250, 2, none⟩ = some (.slice none 0 0) := (Zl BK1250.out 2).trans rfl; have hfz14_0 := Zn BK1250.out 0; have hfz14_1 := Zn BK1250.out 1; have hfz14_2 := Zn BK1250.out 2; obtain ⟨Ao15, co15, eo15⟩ := Kd.Zx HO1245.out; subst eo15; obtain ⟨Ao16, co16, eo16⟩ := Kd.Zx HO1248.out; subst eo16; have hcz17_0 : w12.cell? ⟨gb1235, 0, none⟩ = some (.bool false) := (Zl BK1235.out 0).trans rfl; have hcz17_1 : w12.cell? ⟨gb1235, 1, none⟩ = some (.slice none 0 0) := (Zl BK1235.out 1).trans rfl; have hcz17_2 : w12.cell? ⟨gb1235, 2, none⟩ = some (.slice none 0 0) := (Zl BK1235.out 2).trans rfl; have hfz17_0 := Zn BK1235.out 0; have hfz17_1 := Zn BK1235.out 1; have hfz17_2 := Zn BK1235.out 2))
  refine bodyPost_ret (results_cell_row rfl _ _ gb1235 50 #[.bool t1242, .slice Ao15 t1243.length co15, .slice Ao16 t1246.length co16] (0, 0) _ rfl (by (with_reducible repeat (first | refine Zg ?_ _ | refine Zi ?_ | refine Zh ?_ _)); refine Ym (cs := #[.bool t1242, .slice Ao15 t1243.length co15, .slice none 0 0]) ?_ 2 _ rfl; (with_reducible repeat (first | refine Zg ?_ _ | refine Zi ?_ | refine Zh ?_ _)); refine Ym (cs := #[.bool t1242, .slice none 0 0, .slice none 0 0]) ?_ 1 _ rfl; (with_reducible repeat (first | refine Zg ?_ _ | refine Zi ?_ | refine Zh ?_ _)); refine Ym (cs := #[.bool false, .slice none 0 0, .slice none 0 0]) ?_ 0 _ rfl; (with_reducible repeat (first | refine Zg ?_ _ | refine Zi ?_ | refine Zh ?_ _)); refine blk_far ?_ NB1235_1250.out _; (with_reducible repeat (first | refine Zg ?_ _ | refine Zi ?_ | refine Zh ?_ _)); refine blk_far ?_ NB1235_1250.out _; (with_reducible repeat (first | refine Zg ?_ _ | refine Zi ?_ | refine Zh ?_ _)); refine blk_far ?_ NB1235_1250.out _; (with_reducible repeat (first | refine Zg ?_ _ | refine Zi ?_ | refine Zh ?_ _)); exact BK1235.out) Try.underlying50 rfl Qa8) rfl ?_
  exact ⟨_, _, Qa4, by (with_reducible repeat (first | apply Kd.Zf | apply Kd.Ze | apply Kd.Zj)); exact Kd.Zv (Kd.Yh (p := ⟨gb1235, 2, none⟩) (Kd.Yh (p := ⟨gb1235, 1, none⟩) (Kd.Yh (p := ⟨gb1235, 0, none⟩) (Kd.Yh (p := ⟨gb1250, 2, none⟩) (Kd.Yh (p := ⟨gb1250, 1, none⟩) (Kd.Yh (p := ⟨gb1250, 0, none⟩) (Kd.Yq (Kd.Yq HO1245.out BK1250.out (by decide)) BK1235.out (by decide)) (fun _ hk => hk.1.2) (.bool t1242)) (fun _ hk => hk.1.2) (.slice Ao15 t1243.length co15)) (fun _ hk => hk.1.2) (.slice Ao16 t1246.length co16)) (fun _ hk => hk.2) (.bool t1242)) (fun _ hk => hk.2) (.slice Ao15 t1243.length co15)) (fun _ hk => hk.2) (.slice Ao16 t1246.length co16)) (fun _ hk => hk.1.1.1.1), by (with_reducible repeat (first | apply Kd.Zf | apply Kd.Ze | apply Kd.Zj)); exact Kd.Zv (Kd.Yh (p := ⟨gb1235, 2, none⟩) (Kd.Yh (p := ⟨gb1235, 1, none⟩) (Kd.Yh (p := ⟨gb1235, 0, none⟩) (Kd.Yh (p := ⟨gb1250, 2, none⟩) (Kd.Yh (p := ⟨gb1250, 1, none⟩) (Kd.Yh (p := ⟨gb1250, 0, none⟩) (Kd.Yq (Kd.Yq HO1248.out BK1250.out (by decide)) BK1235.out (by decide)) (fun _ hk => hk.1.2) (.bool t1242)) (fun _ hk => hk.1.2) (.slice Ao15 t1243.length co15)) (fun _ hk => hk.1.2) (.slice Ao16 t1246.length co16)) (fun _ hk => hk.2) (.bool t1242)) (fun _ hk => hk.2) (.slice Ao15 t1243.length co15)) (fun _ hk => hk.2) (.slice Ao16 t1246.length co16)) (fun _ hk => hk.1.1.1.1), Qa0⟩
 rw [if_neg c2] at H
 have c2b0 : decide (a0 < 0) = false := decide_eq_false c2
 clear c2
 obtain ⟨y1251, hy1251⟩ : ∃ y_ : List Int, y_ = (([(Int.tmod (IntKind.u64.wrap (a0)) 4294967296) % 4294967296, (IntKind.u64.wrap (Int.tdiv (IntKind.u64.wrap (a0)) 4294967296)) % 4294967296] : List Int)) := ⟨_, rfl⟩
 replace H : ((r2_Make.f k false y1251 (([1] : List Int))).bind fun bt1257 => (some (bt1257.1, bt1257.2.1, bt1257.2.2.1))) = some (r1, r2, r3) := Qh hy1251 H
 have Ny1251 := Yt.mk hy1251
 clear hy1251
 obtain ⟨y1254, hy1254⟩ : ∃ y_ : List Int, y_ = (([1] : List Int)) := ⟨_, rfl⟩
 replace H : ((r2_Make.f k false y1251 y1254).bind fun bt1257 => (some (bt1257.1, bt1257.2.1, bt1257.2.2.1))) = some (r1, r2, r3) := Qh hy1254 H
 have Ny1254 := Yt.mk hy1254
 clear hy1254
 replace H := Option.bind_eq_some_iff.mp H
 obtain ⟨⟨t1257, t1258, t1261, t1264⟩, A180, H⟩ := H
 replace H : (some (t1257, t1258, t1261)) = some (r1, r2, r3) := H
 have A18 := Yt.mk A180
 clear A180
 simp only [Option.some.injEq, Prod.mk.injEq] at H
 obtain ⟨rfl, rfl, rfl⟩ := H
 go_enter Try.func56, Try.ntmps56
 go_wp2_with (first | ((with_reducible refine Yk (N := 2) rfl ?_); refine Yo ?hg (N := 2) ?hd (cs := #[.bool false, .slice none 0 0, .slice none 0 0]) (t := 50) ?hr ?_; (case hd => rfl); (case hg => rfl); (case hr => exact Qa9); intro gb1235 hg w19 hbox hb; have BK1235 := Yt.mk (hbox); have GW1235 := Yt.mk ((by rw [hg]; exact (Zk (Qa0)) : w.heap.size ≤ gb1235)); have GE1235 := Yt.mk ((by rw [hg]; exact (Zk (Qa0)) : w.heap.size ≤ gb1235)); replace HB := Yt.mk (Zm (Qa0) hb); clear hb hbox hg) | ((with_reducible refine Yk (N := 21) rfl ?_); refine Kd.R_lit (Kd.int .u32) _ 47 ?hg (N := 21) ?hd (xs := ([(Int.tmod (IntKind.u64.wrap (a0)) 4294967296) % 4294967296, (IntKind.u64.wrap (Int.tdiv (IntKind.u64.wrap (a0)) 4294967296)) % 4294967296] : List Int)) (inner := [.int .u32 ((Int.tmod (IntKind.u64.wrap (a0)) 4294967296) % 4294967296), .int .u32 ((IntKind.u64.wrap (Int.tdiv (IntKind.u64.wrap (a0)) 4294967296)) % 4294967296)]) (ok := fun _ => True) (okp := fun _ => True) ?hr ?hp (fun _ hk => hk) trivial (Below.refl _ _) (Nat.le_refl _) (by simp) ?_; (case hd => rfl); (case hg => rfl); (case hr => exact Qa9); (case hp => exact (Reps.one (show Kd.M (Kd.int .u32) _ _ _ ((Int.tmod (IntKind.u64.wrap (a0)) 4294967296) % 4294967296) [.int .u32 ((Int.tmod (IntKind.u64.wrap (a0)) 4294967296) % 4294967296)] from rfl) (Reps.one (show Kd.M (Kd.int .u32) _ _ _ ((IntKind.u64.wrap (Int.tdiv (IntKind.u64.wrap (a0)) 4294967296)) % 4294967296) [.int .u32 ((IntKind.u64.wrap (Int.tdiv (IntKind.u64.wrap (a0)) 4294967296)) % 4294967296)] from rfl) (Reps.none _ _)))); intro v1252 w20 ho21 hb hg_ hnew_; clear hg_ hnew_; (first | rw [← Ny1251.out] at ho21 | (simp only [Int.reduceToNat] at ho21; rw [← Ny1251.out] at ho21)); have HO1253 := Yt.mk (Kd.Yb ho21 (Zk (Qa0))); replace BK1235 := Yt.mk (Zq (g := gb1235) (o := .cells #[.bool false, .slice none 0 0, .slice none 0 0] 50 (0, 0)) (Qr12 BK1235.out) hb); replace HB := Yt.mk (Zm (Qa0) hb); clear hb ho21) | ((with_reducible refine Yk (N := 22) rfl ?_); refine Kd.R_lit (Kd.int .u32) _ 47 ?hg (N := 22) ?hd (xs := ([1] : List Int)) (inner := [.int .u32 1]) (ok := fun _ => True) (okp := fun _ => True) ?hr ?hp (fun _ hk => hk) trivial (Below.refl _ _) (Nat.le_refl _) (by simp) ?_; (case hd => rfl); (case hg => rfl); (case hr => exact Qa9); (case hp => exact (Reps.one (show Kd.M (Kd.int .u32) _ _ _ 1 [.int .u32 1] from rfl) (Reps.none _ _))); intro v1255 w22 ho23 hb hg_ hnew_; clear hg_ hnew_; (first | rw [← Ny1254.out] at ho23 | (simp only [Int.reduceToNat] at ho23; rw [← Ny1254.out] at ho23)); have HO1256 := Yt.mk (Kd.Yb (Kd.Ya ho23 (Kd.R_lt (Qr1 HO1253.out))) (Zk (Qa0))); replace HO1253 := Yt.mk (Kd.Yf (Qr1 HO1253.out) (Kd.Zw ho23) hb); replace BK1235 := Yt.mk (Zq (g := gb1235) (o := .cells #[.bool false, .slice none 0 0, .slice none 0 0] 50 (0, 0)) (Qr12 BK1235.out) hb); replace HB := Yt.mk (Zm (Qa0) hb); clear hb ho23; obtain ⟨Ao24, co24, eo24⟩ := Kd.Zx HO1253.out; subst eo24; obtain ⟨Ao25, co25, eo25⟩ := Kd.Zx HO1256.out; subst eo25) | ((with_reducible refine Zr (f := 49) rfl ?_); refine Yg (some 23) rfl rfl Try.func49 Qa8 rfl #[.bool false, .slice Ao24 y1251.length co24, .slice Ao25 y1254.length co25] rfl Qa2 ?_; (with_reducible refine (r2_Make.calls k false _ _ y1251 _ _ y1254 t1257 t1258 t1261 t1264 _ ?side1 ?side2 ?side3 ?side4 A18.out).mono ?_); (case side1 => exact Qe11 (Kd.Zs HO1253.out).2.2); (case side2 => exact (Kd.Zs HO1253.out).2.1); (case side3 => exact Qe11 (Kd.Zs HO1256.out).2.2); (case side4 => exact (Kd.Zs HO1256.out).2.1); rintro e w26 ⟨v1259, v1262, rfl, ho0, ho1, hb⟩; refine ⟨_, rfl, ?_⟩; have HO1260 := Yt.mk (Kd.Yb (Kd.Ya (Kd.Ya ho0 (Kd.R_lt (Qr1 HO1253.out))) (Kd.R_lt (Qr1 HO1256.out))) (Zk (Qa0))); have HO1263 := Yt.mk (Kd.Yb (Kd.Ya (Kd.Ya ho1 (Kd.R_lt (Qr1 HO1253.out))) (Kd.R_lt (Qr1 HO1256.out))) (Zk (Qa0))); replace HO1253 := Yt.mk (Kd.Zv (Kd.Yl (Kd.Yl (Kd.R_old (Qr1 HO1253.out) hb) (Kd.Zw ho0)) (Kd.Zw ho1)) (fun _ h_ => h_.1)); replace HO1256 := Yt.mk (Kd.Zv (Kd.Yl (Kd.Yl (Kd.R_old (Qr1 HO1256.out) hb) (Kd.Zw ho0)) (Kd.Zw ho1)) (fun _ h_ => h_.1)); replace BK1235 := Yt.mk (Zq (g := gb1235) (o := .cells #[.bool false, .slice none 0 0, .slice none 0 0] 50 (0, 0)) (Qr12 BK1235.out) hb); replace HB := Yt.mk (Zm (Qa0) hb); (try clear hb); (try clear ho0); (try clear ho1)) | ((with_reducible refine Yk (N := 4) rfl ?_); refine Yo ?hg (N := 4) ?hd (cs := #[.bool false, .slice none 0 0, .slice none 0 0]) (t := 50) ?hr ?_; (case hd => rfl); (case hg => rfl); (case hr => exact Qa9); intro gb1265 hg w27 hbox hb; replace HO1253 := Yt.mk (Kd.Yd (Qr1 HO1253.out) hb); replace HO1256 := Yt.mk (Kd.Yd (Qr1 HO1256.out) hb); replace HO1260 := Yt.mk (Kd.Yd (Qr1 HO1260.out) hb); replace HO1263 := Yt.mk (Kd.Yd (Qr1 HO1263.out) hb); have BK1265 := Yt.mk (hbox); have GW1265 := Yt.mk ((by rw [hg]; exact (Zk (Qa0)) : w.heap.size ≤ gb1265)); have GE1265 := Yt.mk ((by rw [hg]; exact (Zk (Qa0)) : w.heap.size ≤ gb1265)); replace HB := Yt.mk (Zm (Qa0) hb); have NB1235_1265 := Yt.mk ((by rw [hg]; exact Nat.ne_of_lt (blk_lt (g := gb1235) (o := .cells #[.bool false, .slice none 0 0, .slice none 0 0] 50 (0, 0)) (Qr12 BK1235.out)) : gb1235 ≠ gb1265)); have NB1265_1235 := Yt.mk ((by rw [hg]; exact Nat.ne_of_gt (blk_lt (g := gb1235) (o := .cells #[.bool false, .slice none 0 0, .slice none 0 0] 50 (0, 0)) (Qr12 BK1235.out)) : gb1265 ≠ gb1235)); replace BK1235 := Yt.mk (Zq (g := gb1235) (o := .cells #[.bool false, .slice none 0 0, .slice none 0 0] 50 (0, 0)) (Qr12 BK1235.out) hb); clear hb hbox hg; have hnb28 := NB1265_1235.out; have hnc28 := NB1235_1265.out; have hcz29_0 : w27.cell? ⟨gb1265, 0, none⟩ = some (.bool false) := (Zl BK1265.out 0).trans rfl; have hcz29_1 : w27.cell? ⟨gb1265, 1, none⟩ = some (.slice none 0 0) := (Zl BK1265.out 1).trans rfl; have hcz29_2 : w27.cell? ⟨gb1265, 2, none⟩ = some (.slice none 0 0) := (Zl BK1265.out 2).trans rfl; have hfz29_0 := Zn BK1265.out 0; have hfz29_1 := Zn BK1265.out 1; have hfz29_2 := Zn BK1265.out 2; obtain ⟨Ao30, co30, eo30⟩ := Kd.Zx HO1260.out; subst eo30; obtain ⟨Ao31, co31, eo31⟩ := Kd.Zx HO1263.out; subst eo31; have hcz32_0 : w27.cell? ⟨gb1235, 0, none⟩ = some (.bool false) := (Zl BK1235.out 0).trans rfl; have hcz32_1 : w27.cell? ⟨gb1235, 1, none⟩ = some (.slice none 0 0) := (Zl BK1235.out 1).trans rfl; have hcz32_2 : w27.cell? ⟨gb1235, 2, none⟩ = some (.slice none 0 0) := (Zl BK1235.out 2).trans rfl; have hfz32_0 := Zn BK1235.out 0; have hfz32_1 := Zn BK1235.out 1; have hfz32_2 := Zn BK1235.out 2))
 refine bodyPost_ret (results_cell_row rfl _ _ gb1235 50 #[.bool t1257, .slice Ao30 t1258.length co30, .slice Ao31 t1261.length co31] (0, 0) _ rfl (by (with_reducible repeat (first | refine Zg ?_ _ | refine Zi ?_ | refine Zh ?_ _)); refine Ym (cs := #[.bool t1257, .slice Ao30 t1258.length co30, .slice none 0 0]) ?_ 2 _ rfl; (with_reducible repeat (first | refine Zg ?_ _ | refine Zi ?_ | refine Zh ?_ _)); refine Ym (cs := #[.bool t1257, .slice none 0 0, .slice none 0 0]) ?_ 1 _ rfl; (with_reducible repeat (first | refine Zg ?_ _ | refine Zi ?_ | refine Zh ?_ _)); refine Ym (cs := #[.bool false, .slice none 0 0, .slice none 0 0]) ?_ 0 _ rfl; (with_reducible repeat (first | refine Zg ?_ _ | refine Zi ?_ | refine Zh ?_ _)); refine blk_far ?_ NB1235_1265.out _; (with_reducible repeat (first | refine Zg ?_ _ | refine Zi ?_ | refine Zh ?_ _)); refine blk_far ?_ NB1235_1265.out _; (with_reducible repeat (first | refine Zg ?_ _ | refine Zi ?_ | refine Zh ?_ _)); refine blk_far ?_ NB1235_1265.out _; (with_reducible repeat (first | refine Zg ?_ _ | refine Zi ?_ | refine Zh ?_ _)); exact BK1235.out) Try.underlying50 rfl Qa8) rfl ?_
 exact ⟨_, _, Qa4, by (with_reducible repeat (first | apply Kd.Zf | apply Kd.Ze | apply Kd.Zj)); exact Kd.Zv (Kd.Yh (p := ⟨gb1235, 2, none⟩) (Kd.Yh (p := ⟨gb1235, 1, none⟩) (Kd.Yh (p := ⟨gb1235, 0, none⟩) (Kd.Yh (p := ⟨gb1265, 2, none⟩) (Kd.Yh (p := ⟨gb1265, 1, none⟩) (Kd.Yh (p := ⟨gb1265, 0, none⟩) (Kd.Yq (Kd.Yq HO1260.out BK1265.out (by decide)) BK1235.out (by decide)) (fun _ hk => hk.1.2) (.bool t1257)) (fun _ hk => hk.1.2) (.slice Ao30 t1258.length co30)) (fun _ hk => hk.1.2) (.slice Ao31 t1261.length co31)) (fun _ hk => hk.2) (.bool t1257)) (fun _ hk => hk.2) (.slice Ao30 t1258.length co30)) (fun _ hk => hk.2) (.slice Ao31 t1261.length co31)) (fun _ hk => hk.1.1.1.1), by (with_reducible repeat (first | apply Kd.Zf | apply Kd.Ze | apply Kd.Zj)); exact Kd.Zv (Kd.Yh (p := ⟨gb1235, 2, none⟩) (Kd.Yh (p := ⟨gb1235, 1, none⟩) (Kd.Yh (p := ⟨gb1235, 0, none⟩) (Kd.Yh (p := ⟨gb1265, 2, none⟩) (Kd.Yh (p := ⟨gb1265, 1, none⟩) (Kd.Yh (p := ⟨gb1265, 0, none⟩) (Kd.Yq (Kd.Yq HO1263.out BK1265.out (by decide)) BK1235.out (by decide)) (fun _ hk => hk.1.2) (.bool t1257)) (fun _ hk => hk.1.2) (.slice Ao30 t1258.length co30)) (fun _ hk => hk.1.2) (.slice Ao31 t1261.length co31)) (fun _ hk => hk.2) (.bool t1257)) (fun _ hk => hk.2) (.slice Ao30 t1258.length co30)) (fun _ hk => hk.2) (.slice Ao31 t1261.length co31)) (fun _ hk => hk.1.1.1.1), Qa0⟩
mutual
def nats_Add.j0 : Nat → List Int → List Int → Option (List Int)
 | 0, _, _ => none
 | k + 1, x0, x1 => if 0 ≤ (wrap64 ((x0.length : Int) + 1)) then (if (wrap64 ((x0.length : Int) + 1) : Int).toNat ≤ 70368744177664 then (nats_Add.l0 k x0 x1 (([] : List Int)) 0 (x0.length : Int) 0) else (none)) else (none)
def nats_Add.l0 : Nat → List Int → List Int → List Int → Int → Int → Int → Option (List Int)
 | 0, _, _, _, _, _, _ => none
 | k + 1, x0, x1, x5, x6, x22, x23 => if x23 < x22 then (if x23 < (x1.length : Int) then (if 0 ≤ x23 then (if x23 < (x0.length : Int) then ((bits_Add32.f (rd x0 x23) (rd x1 x23) x6).bind fun bt305 => (if x5.length < 35184372088832 then (nats_Add.l0 k x0 x1 (x5 ++ [bt305.1]) bt305.2 x22 (wrap64 (x23 + 1))) else (none))) else (none)) else (none)) else (if 0 ≤ x23 then (if x23 < (x0.length : Int) then ((bits_Add32.f (rd x0 x23) 0 x6).bind fun bt311 => (if x5.length < 35184372088832 then (nats_Add.l0 k x0 x1 (x5 ++ [bt311.1]) bt311.2 x22 (wrap64 (x23 + 1))) else (none))) else (none)) else (none))) else (if x5.length < 35184372088832 then ((nats_cuto.f k (x5 ++ [x6])).bind fun t319 => (some t319)) else (none))
end
def nats_Add.f (k : Nat) (l0 : List Int) (l1 : List Int) : Option (List Int) := if (l0.length : Int) < (l1.length : Int) then (nats_Add.j0 k l1 l0) else (nats_Add.j0 k l0 l1)
end Go.Proofs.Ytgffficaoioljaa.P
end
