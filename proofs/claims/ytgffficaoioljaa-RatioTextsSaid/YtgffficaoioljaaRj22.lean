import Derived.Test.YtgffficaoioljaaRj11
import Derived.Test.YtgffficaoioljaaRj17
import Derived.Test.YtgffficaoioljaaRj18
import Derived.Test.YtgffficaoioljaaRj12
import Derived.Test.YtgffficaoioljaaRj13
import Derived.Test.YtgffficaoioljaaRj1
section
namespace Go.Proofs.Ytgffficaoioljaa.P
open Go.RowKit Go.Proofs.YtgffficaoioljaaW.PrintWords Go.Proofs.YtgffficaoioljaaW.PrintLast Go.Proofs.YtgffficaoioljaaW.PrintMore
attribute [local go_sem] max2_int min2_int max_two min_two max_three min_three max_four min_four
set_option linter.unusedVariables false
set_option linter.unusedSimpArgs false
set_option maxHeartbeats 8000000
set_option maxRecDepth 100000
mutual
def ratio_Read.j0 : Nat → ByteArray → Bool → Int → Bool → Option (Bool × List Int × List Int × Int)
 | 0, _, _, _, _ => none
 | k + 1, x0, x4, x5, x21 => if x21 = true then (if 0 < (x0.size : Int) then (ratio_Read.j1 k x0 ((bt x0 0) == 45) 1) else (none)) else (ratio_Read.j1 k x0 x4 x5)
def ratio_Read.j1 : Nat → ByteArray → Bool → Int → Option (Bool × List Int × List Int × Int)
 | 0, _, _, _ => none
 | k + 1, x0, x4, x5 => (ratio_natDigits.f k x0 x5).bind fun bt1054 => (if bt1054.2.2 = true then (if bt1054.2.1 < (x0.size : Int) then (if 0 ≤ bt1054.2.1 then ((ratio_class.f (bt x0 bt1054.2.1)).bind fun t1062 => (if t1062 = 3 then ((ratio_natDigits.f k x0 (wrap64 (bt1054.2.1 + 1))).bind fun bt1063 => (if bt1063.2.2 = true then (if bt1063.2.1 < (x0.size : Int) then (ratio_Read.j2 k x4 bt1054.1 bt1063.1 true) else (ratio_Read.j2 k x4 bt1054.1 bt1063.1 ((bt1063.1.length : Int) == 0))) else (ratio_Read.j2 k x4 bt1054.1 bt1063.1 true))) else (some (false, ([] : List Int), ([] : List Int), 21)))) else (none)) else (ratio_Read.j3 k x4 bt1054.1 (([1] : List Int)))) else (some (false, ([] : List Int), ([] : List Int), 21)))
def ratio_Read.j3 : Nat → Bool → List Int → List Int → Option (Bool × List Int × List Int × Int)
 | 0, _, _, _ => none
 | k + 1, x4, x6, x9 => (ratio_Make.f k x4 x6 x9).bind fun bt1068 => (some (bt1068.1, bt1068.2.1, bt1068.2.2.1, bt1068.2.2.2))
def ratio_Read.j2 : Nat → Bool → List Int → List Int → Bool → Option (Bool × List Int × List Int × Int)
 | 0, _, _, _, _ => none
 | k + 1, x4, x6, x9, x66 => if x66 = true then (some (false, ([] : List Int), ([] : List Int), 21)) else (ratio_Read.j3 k x4 x6 x9)
end
def ratio_Read.f (k : Nat) (a0 : ByteArray) : Option (Bool × List Int × List Int × Int) := if (a0.size : Int) > 4096 then (some (false, ([] : List Int), ([] : List Int), 3)) else (if a0.toList = ([] : List UInt8) then (ratio_Read.j0 k a0 false 0 false) else (if 0 < (a0.size : Int) then ((ratio_class.f (bt a0 0)).bind fun t1053 => (ratio_Read.j0 k a0 false 0 (t1053 == 1))) else (none)))
theorem ratio_Read.mono_l : ∀ k, (∀ y0 y1 y2 y3, LeO (ratio_Read.j0 k y0 y1 y2 y3) (ratio_Read.j0 (k + 1) y0 y1 y2 y3)) ∧ (∀ y0 y1 y2, LeO (ratio_Read.j1 k y0 y1 y2) (ratio_Read.j1 (k + 1) y0 y1 y2)) ∧ (∀ y0 y1 y2, LeO (ratio_Read.j3 k y0 y1 y2) (ratio_Read.j3 (k + 1) y0 y1 y2)) ∧ (∀ y0 y1 y2 y3, LeO (ratio_Read.j2 k y0 y1 y2 y3) (ratio_Read.j2 (k + 1) y0 y1 y2 y3))
 | 0 => ⟨fun _ _ _ _ r h => by simp [ratio_Read.j0] at h, fun _ _ _ r h => by simp [ratio_Read.j1] at h, fun _ _ _ r h => by simp [ratio_Read.j3] at h, fun _ _ _ _ r h => by simp [ratio_Read.j2] at h⟩
 | k + 1 => by
  obtain ⟨ih0, ih1, ih2, ih3⟩ := ratio_Read.mono_l k
  refine ⟨?_, ?_, ?_, ?_⟩
  ·intro y0 y1 y2 y3
   unfold ratio_Read.j0
   have m0 := @ratio_Make.mono
   have m1 := @ratio_natDigits.mono
   exact Qa6
  ·intro y0 y1 y2
   unfold ratio_Read.j1
   have m0 := @ratio_Make.mono
   have m1 := @ratio_natDigits.mono
   exact Qa6
  ·intro y0 y1 y2
   unfold ratio_Read.j3
   have m0 := @ratio_Make.mono
   have m1 := @ratio_natDigits.mono
   exact Qa6
  ·intro y0 y1 y2 y3
   unfold ratio_Read.j2
   have m0 := @ratio_Make.mono
   have m1 := @ratio_natDigits.mono
   exact Qa6
theorem ratio_Read.mono : ∀ a0 k, LeO (ratio_Read.f k a0) (ratio_Read.f (k + 1) a0) := by
 intro a0 k
 obtain ⟨ih0, ih1, ih2, ih3⟩ := ratio_Read.mono_l k
 unfold ratio_Read.f
 have m0 := @ratio_Make.mono
 have m1 := @ratio_natDigits.mono
 exact Qa6
theorem ratio_Read.calls (k : Nat) (a0 : ByteArray) (r1 : Bool) (r2 : List Int) (r3 : List Int) (r4 : Int) (w : World) (h : ratio_Read.f k a0 = some (r1, r2, r3, r4)) :
  Calls Try.prog 59 #[.string a0] w fun e w' => ∃ v1_ v2_ : Value, e = .returned (.tuple #[.agg #[.bool r1, v1_, v2_], .int .i64 r4]) ∧ Kd.R (Kd.int .u32) 47 w' w.heap.size (fun k_ => some k_ ≠ (v2_ : Value).ownBlock) v1_ r2 ∧ Kd.R (Kd.int .u32) 47 w' w.heap.size (fun k_ => some k_ ≠ (v1_ : Value).ownBlock) v2_ r3 ∧ Below w.heap.size w w' := by
 have hu50 := Try.underlying50
 have HB := Yt.mk (Below.refl w.heap.size w)
 unfold ratio_Read.f at h
 have H := h
 clear h
 by_cases c2 : (a0.size : Int) > 4096
 ·rw [if_pos c2] at H
  have c2b0 : decide (4096 < (a0.size : Int)) = true := decide_eq_true c2
  have c2b1 : decide (4096 < a0.size) = true := decide_eq_true (by omega)
  clear c2
  simp only [Option.some.injEq, Prod.mk.injEq] at H
  obtain ⟨rfl, rfl, rfl, rfl⟩ := H
  go_enter Try.func59, Try.ntmps59
  go_wp2_with (first | ((with_reducible refine Yk (N := 2) rfl ?_); (try (refine gate_guard (by rfl) ?_; dsimp only)); refine Yo ?hg (N := 2) ?hd (cs := #[.bool false, .slice none 0 0, .slice none 0 0]) (t := 50) ?hr ?_; (case hd => rfl); (case hg => rfl); (case hr => exact Qa8); intro gb1052 hg w3 hbox hb; have BK1052 := Yt.mk (hbox); have GW1052 := Yt.mk ((by rw [hg]; exact (Zk (Qa0)) : w.heap.size ≤ gb1052)); have GE1052 := Yt.mk ((by rw [hg]; exact (Zk (Qa0)) : w.heap.size ≤ gb1052)); replace HB := Yt.mk (Zm (Qa0) hb); clear hb hbox hg; have hcz4_0 : w3.cell? ⟨gb1052, 0, none⟩ = some (.bool false) := (Zl BK1052.out 0).trans rfl; have hcz4_1 : w3.cell? ⟨gb1052, 1, none⟩ = some (.slice none 0 0) := (Zl BK1052.out 1).trans rfl; have hcz4_2 : w3.cell? ⟨gb1052, 2, none⟩ = some (.slice none 0 0) := (Zl BK1052.out 2).trans rfl; have hfz4_0 := Zn BK1052.out 0; have hfz4_1 := Zn BK1052.out 1; have hfz4_2 := Zn BK1052.out 2))
  refine bodyPost_ret (results_ct rfl _ _ gb1052 50 #[.bool false, .slice none 0 0, .slice none 0 0] (0, 0) _ rfl (by (with_reducible repeat (first | refine Zg ?_ _ | refine Zi ?_ | refine Zh ?_ _)); refine Ym (cs := #[.bool false, .slice none 0 0, .slice none 0 0]) ?_ 2 _ rfl; (with_reducible repeat (first | refine Zg ?_ _ | refine Zi ?_ | refine Zh ?_ _)); refine Ym (cs := #[.bool false, .slice none 0 0, .slice none 0 0]) ?_ 1 _ rfl; (with_reducible repeat (first | refine Zg ?_ _ | refine Zi ?_ | refine Zh ?_ _)); refine Ym (cs := #[.bool false, .slice none 0 0, .slice none 0 0]) ?_ 0 _ rfl; (with_reducible repeat (first | refine Zg ?_ _ | refine Zi ?_ | refine Zh ?_ _)); exact BK1052.out) Try.underlying50 rfl Qa7) rfl ?_
  exact ⟨_, _, Qa4, by first | exact Kd.R_nil _ _ _ _ _ | exact Kd.N_nil _ _ _ _ _ | exact Kd.V_nil _ _ _ _ _ | exact Kd.Q_nil _ _ _ _ _ | exact Kd.S_nil _ _ _ _ _, by first | exact Kd.R_nil _ _ _ _ _ | exact Kd.N_nil _ _ _ _ _ | exact Kd.V_nil _ _ _ _ _ | exact Kd.Q_nil _ _ _ _ _ | exact Kd.S_nil _ _ _ _ _, Qa0⟩
 rw [if_neg c2] at H
 have c2b0 : decide (4096 < (a0.size : Int)) = false := decide_eq_false c2
 have c2b1 : decide (4096 < a0.size) = false := decide_eq_false (by omega)
 clear c2
 have HC5 := Yt.mk H
 clear H
 go_enter Try.func59, Try.ntmps59
 go_upto_region 4 with (first | ((with_reducible refine Yk (N := 2) rfl ?_); (try (refine gate_guard (by rfl) ?_; dsimp only)); refine Yo ?hg (N := 2) ?hd (cs := #[.bool false, .slice none 0 0, .slice none 0 0]) (t := 50) ?hr ?_; (case hd => rfl); (case hg => rfl); (case hr => exact Qa8); intro gb1052 hg w6 hbox hb; have BK1052 := Yt.mk (hbox); have GW1052 := Yt.mk ((by rw [hg]; exact (Zk (Qa0)) : w.heap.size ≤ gb1052)); have GE1052 := Yt.mk ((by rw [hg]; exact (Zk (Qa0)) : w.heap.size ≤ gb1052)); replace HB := Yt.mk (Zm (Qa0) hb); clear hb hbox hg))
 (try simp only [Act.put, List.setIfInBounds_toArray, List.set_cons_zero, List.set_cons_succ])
 go_cut [21] (fun v21 wc => ∃ (kq : Nat) (x21_4 : Bool), v21 = .bool x21_4 ∧ Yt (ratio_Read.j0 kq a0 false 0 x21_4 = some (r1, r2, r3, r4)) ∧ Yt (kq ≤ k) ∧ Yt (wc.heap[gb1052]? = some (.cells #[.bool false, (.slice none 0 0), (.slice none 0 0)] 50 (0, 0))) ∧ Yt (Below w.heap.size w wc))
 case first =>
  have H := HC5.out
  clear HC5
  by_cases c7 : a0.toList = ([] : List UInt8)
  ·rw [if_pos c7] at H
   have c7b0 : (a0.toList == ([] : List UInt8)) = true := beq_iff_eq.mpr c7
   have c7b1 : (a0.toList != ([] : List UInt8)) = false := bne_eq_false_iff_eq.mpr c7
   clear c7
   (first | rw [c7b0] | rw [c7b1] | (simp only [Yi, Yj]; rw [c7b0]) | skip)
   have H' := Yt.mk H
   clear H
   go_wp2
   go_meet
   case rel => exact ⟨_, (false), Qa5, H', ⟨by first | omega | exact Nat.le_refl _⟩, ⟨Qr12 BK1052.out⟩, ⟨Qa0⟩⟩
  rw [if_neg c7] at H
  have c7b0 : (a0.toList == ([] : List UInt8)) = false := beq_eq_false_iff_ne.mpr c7
  have c7b1 : (a0.toList != ([] : List UInt8)) = true := bne_iff_ne.mpr c7
  (first | rw [c7b0] | rw [c7b1] | (simp only [Yi, Yj]; rw [c7b0]) | skip)
  by_cases c8 : 0 < (a0.size : Int)
  rotate_left
  ·rw [if_neg c8] at H
   exact absurd H (by simp)
  rw [if_pos c8] at H
  have c8b0 : decide (0 < (a0.size : Int)) = true := decide_eq_true c8
  have c8b1 : decide (0 < a0.size) = true := decide_eq_true (by omega)
  clear c8
  replace H := Option.bind_eq_some_iff.mp H
  obtain ⟨t1053, A100, H⟩ := H
  try dsimp only at H
  have A10 := Yt.mk A100
  clear A100
  have H' := Yt.mk H
  clear H
  have p9 : 0 ≤ (0 : Int) := (by omega)
  have q9 : 0 < a0.size := (by have : (0 : Int) < (a0.size : Int) := Qd; omega)
  have hx9 : ∀ h : 0 < a0.size, ((a0[0]'h).toNat : Int) = bt a0 0 := bt_at a0 0
  clear p9
  have qi9 : (0 < (a0.size : Int)) = True := eq_true (Qd)
  replace q9 := eq_true q9
  go_wp2_with (first | (go_at_call 99; (with_reducible refine (ratio_class.calls (bt a0 0) t1053 _ A10.out).mono ?_); rintro e w11 ⟨rfl, hb⟩; replace BK1052 := Yt.mk (Zq (g := gb1052) (o := .cells #[.bool false, .slice none 0 0, .slice none 0 0] 50 (0, 0)) (Qr12 BK1052.out) hb); replace HB := Yt.mk (Zm (Qa0) hb); (try clear hb)))
  go_meet
  case rel => exact ⟨_, ((t1053 == 1)), Qa5, H', ⟨by first | omega | exact Nat.le_refl _⟩, ⟨Qr12 BK1052.out⟩, ⟨Qa0⟩⟩
 case rest =>
  clear HC5
  try clear c2; try clear c2b0; try clear c2b1; try clear p2; try clear c5; try clear c7; try clear c7b0; try clear c7b1; try clear c8; try clear c8b0; try clear c8b1; try clear p9; try clear q9; try clear hx9; try clear qi9; try clear hcz4_0; try clear hcz4_1; try clear hcz4_2; try clear hfz4_0; try clear hfz4_1; try clear hfz4_2; try clear p9; try clear q9
  obtain ⟨kq, x21_4, rfl, HA, HJ4, BK1052, HB⟩ := hcut
  cases kq with
  | zero => exact absurd HA.out (by simp [ratio_Read.j0])
  | succ kj4 =>
   have H := HA.out
   clear HA
   simp only [ratio_Read.j0] at H
   have HC12 := Yt.mk H
   clear H
   go_upto_if 21 with (fail)
   go_cut [4, 5] (fun v4 v5 wc => ∃ (kq : Nat) (x4_11 : Bool) (x5_11 : Int), v4 = .bool x4_11 ∧ v5 = .int .i64 x5_11 ∧ Yt (ratio_Read.j1 kq a0 x4_11 x5_11 = some (r1, r2, r3, r4)) ∧ Yt (kq ≤ kj4) ∧ Yt (wc.heap[gb1052]? = some (.cells #[.bool false, (.slice none 0 0), (.slice none 0 0)] 50 (0, 0))) ∧ Yt (Below w.heap.size w wc))
   case first =>
    have H := HC12.out
    clear HC12
    by_cases c13 : x21_4 = true
    rotate_left
    ·replace c13 := Bool.eq_false_iff.mpr c13
     subst c13
     rw [if_neg (show ¬ (false = true) by decide)] at H
     have H' := Yt.mk H
     clear H
     go_wp2
     go_meet
     case rel => exact ⟨_, (false), (0), Qa5, Qa5, H', ⟨by have := HJ4.out; first | omega | exact Nat.le_refl _⟩, ⟨Qr12 BK1052.out⟩, ⟨Qa0⟩⟩
    subst c13
    rw [if_pos rfl] at H
    by_cases c14 : 0 < (a0.size : Int)
    rotate_left
    ·rw [if_neg c14] at H
     exact absurd H (by simp)
    rw [if_pos c14] at H
    have c14b0 : decide (0 < (a0.size : Int)) = true := decide_eq_true c14
    have c14b1 : decide (0 < a0.size) = true := decide_eq_true (by omega)
    clear c14
    (first | rw [c14b0] | rw [c14b1] | (simp only [Yi, Yj]; rw [c14b0]) | skip)
    have H' := Yt.mk H
    clear H
    have p15 : 0 ≤ (0 : Int) := (by omega)
    have q15 : 0 < a0.size := (by have : (0 : Int) < (a0.size : Int) := Qd; omega)
    have hx15 : ∀ h : 0 < a0.size, ((a0[0]'h).toNat : Int) = bt a0 0 := bt_at a0 0
    clear p15
    have qi15 : (0 < (a0.size : Int)) = True := eq_true (Qd)
    replace q15 := eq_true q15
    go_wp2
    go_meet
    case rel => exact ⟨_, (((bt a0 0) == 45)), (1), Qa5, Qa5, H', ⟨by have := HJ4.out; first | omega | exact Nat.le_refl _⟩, ⟨Qr12 BK1052.out⟩, ⟨Qa0⟩⟩
   case rest =>
    clear HC12
    try clear c1; try clear p1; try clear q1; try clear hx1; try clear qi1; try clear c2; try clear c2b0; try clear c2b1; try clear p2; try clear c5; try clear c7; try clear c7b0; try clear c7b1; try clear c8; try clear c8b0; try clear c8b1; try clear p9; try clear q9; try clear hx9; try clear qi9; try clear c13; try clear c14; try clear c14b0; try clear c14b1; try clear p15; try clear q15; try clear hx15; try clear qi15; try clear hcz4_0; try clear hcz4_1; try clear hcz4_2; try clear hfz4_0; try clear hfz4_1; try clear hfz4_2; try clear p15; try clear p2; try clear p9; try clear q15; try clear q9
    obtain ⟨kq, x4_11, x5_11, rfl, rfl, HA, HJ11, BK1052, HB⟩ := hcut
    cases kq with
    | zero => exact absurd HA.out (by simp [ratio_Read.j1])
    | succ kj11 =>
     have H := HA.out
     clear HA
     simp only [ratio_Read.j1] at H
     replace H := Option.bind_eq_some_iff.mp H
     obtain ⟨⟨t1054, t1055, t1056⟩, A160, H⟩ := H
     try dsimp only at H
     have A16 := Yt.mk A160
     clear A160
     by_cases c17 : t1056 = true
     rotate_left
     ·replace c17 := Bool.eq_false_iff.mpr c17
      subst c17
      rw [if_neg (show ¬ (false = true) by decide)] at H
      simp only [Option.some.injEq, Prod.mk.injEq] at H
      obtain ⟨rfl, rfl, rfl, rfl⟩ := H
      go_wp2_with (first | ((with_reducible refine Zr (f := 100) rfl ?_); refine Yg (some 28) rfl rfl Try.func100 Qa7 rfl #[.string a0, .int .i64 x5_11] rfl Qa2 ?_; (with_reducible refine (ratio_natDigits.calls kj11 a0 x5_11 t1054 t1055 false _ A16.out).mono ?_); rintro e w45 ⟨v1057, rfl, ho0, hb⟩; refine ⟨_, rfl, ?_⟩; have HO1058 := Yt.mk (Kd.Yb ho0 (Zk (Qa0))); replace BK1052 := Yt.mk (Zq (g := gb1052) (o := .cells #[.bool false, .slice none 0 0, .slice none 0 0] 50 (0, 0)) (Qr12 BK1052.out) hb); replace HB := Yt.mk (Zm (Qa0) hb); (try clear hb); (try clear ho0); have hcz46_0 : w45.cell? ⟨gb1052, 0, none⟩ = some (.bool false) := (Zl BK1052.out 0).trans rfl; have hcz46_1 : w45.cell? ⟨gb1052, 1, none⟩ = some (.slice none 0 0) := (Zl BK1052.out 1).trans rfl; have hcz46_2 : w45.cell? ⟨gb1052, 2, none⟩ = some (.slice none 0 0) := (Zl BK1052.out 2).trans rfl; have hfz46_0 := Zn BK1052.out 0; have hfz46_1 := Zn BK1052.out 1; have hfz46_2 := Zn BK1052.out 2))
      refine bodyPost_ret (results_ct rfl _ _ gb1052 50 #[.bool false, .slice none 0 0, .slice none 0 0] (0, 0) _ rfl (by (with_reducible repeat (first | refine Zg ?_ _ | refine Zi ?_ | refine Zh ?_ _)); refine Ym (cs := #[.bool false, .slice none 0 0, .slice none 0 0]) ?_ 2 _ rfl; (with_reducible repeat (first | refine Zg ?_ _ | refine Zi ?_ | refine Zh ?_ _)); refine Ym (cs := #[.bool false, .slice none 0 0, .slice none 0 0]) ?_ 1 _ rfl; (with_reducible repeat (first | refine Zg ?_ _ | refine Zi ?_ | refine Zh ?_ _)); refine Ym (cs := #[.bool false, .slice none 0 0, .slice none 0 0]) ?_ 0 _ rfl; (with_reducible repeat (first | refine Zg ?_ _ | refine Zi ?_ | refine Zh ?_ _)); exact BK1052.out) Try.underlying50 rfl Qa7) rfl ?_
      exact ⟨_, _, Qa4, by first | exact Kd.R_nil _ _ _ _ _ | exact Kd.N_nil _ _ _ _ _ | exact Kd.V_nil _ _ _ _ _ | exact Kd.Q_nil _ _ _ _ _ | exact Kd.S_nil _ _ _ _ _, by first | exact Kd.R_nil _ _ _ _ _ | exact Kd.N_nil _ _ _ _ _ | exact Kd.V_nil _ _ _ _ _ | exact Kd.Q_nil _ _ _ _ _ | exact Kd.S_nil _ _ _ _ _, Qa0⟩
     subst c17
     rw [if_pos rfl] at H
     obtain ⟨y1059, hy1059⟩ : ∃ y_ : List Int, y_ = (([1] : List Int)) := ⟨_, rfl⟩
     replace H : (if t1055 < (a0.size : Int) then (if 0 ≤ t1055 then ((ratio_class.f (bt a0 t1055)).bind fun t1062 => (if t1062 = 3 then ((ratio_natDigits.f kj11 a0 (wrap64 (t1055 + 1))).bind fun bt1063 => (if bt1063.2.2 = true then (if bt1063.2.1 < (a0.size : Int) then (ratio_Read.j2 kj11 x4_11 t1054 bt1063.1 true) else (ratio_Read.j2 kj11 x4_11 t1054 bt1063.1 ((bt1063.1.length : Int) == 0))) else (ratio_Read.j2 kj11 x4_11 t1054 bt1063.1 true))) else (some (false, ([] : List Int), ([] : List Int), 21)))) else (none)) else (ratio_Read.j3 kj11 x4_11 t1054 y1059)) = some (r1, r2, r3, r4) := Qh hy1059 H
     have Ny1059 := Yt.mk hy1059
     clear hy1059
     have HC18 := Yt.mk H
     clear H
     go_upto_if 39 with (first | ((with_reducible refine Zr (f := 100) rfl ?_); refine Yg (some 28) rfl rfl Try.func100 Qa7 rfl #[.string a0, .int .i64 x5_11] rfl Qa2 ?_; (with_reducible refine (ratio_natDigits.calls kj11 a0 x5_11 t1054 t1055 true _ A16.out).mono ?_); rintro e w19 ⟨v1057, rfl, ho0, hb⟩; refine ⟨_, rfl, ?_⟩; have HO1058 := Yt.mk (Kd.Yb ho0 (Zk (Qa0))); replace BK1052 := Yt.mk (Zq (g := gb1052) (o := .cells #[.bool false, .slice none 0 0, .slice none 0 0] 50 (0, 0)) (Qr12 BK1052.out) hb); replace HB := Yt.mk (Zm (Qa0) hb); (try clear hb); (try clear ho0)) | ((with_reducible refine Yk (N := 35) rfl ?_); (try (refine gate_guard (by rfl) ?_; dsimp only)); refine Kd.R_lit (Kd.int .u32) _ 47 ?hg (N := 35) ?hd (xs := ([1] : List Int)) (inner := [.int .u32 1]) (ok := fun _ => True) (okp := fun _ => True) ?hr ?hp (fun _ hk => hk) trivial (Below.refl _ _) (Nat.le_refl _) (by simp) ?_; (case hd => rfl); (case hg => rfl); (case hr => exact Qa8); (case hp => exact (Reps.one (show Kd.M (Kd.int .u32) _ _ _ 1 [.int .u32 1] from rfl) (Reps.none _ _))); intro v1060 w20 ho21 hb hg_ hnew_; clear hg_ hnew_; (first | rw [← Ny1059.out] at ho21 | (simp only [Int.reduceToNat] at ho21; rw [← Ny1059.out] at ho21)); have HO1061 := Yt.mk (Kd.Yb (Kd.Ya ho21 (Kd.R_lt (Qr1 HO1058.out))) (Zk (Qa0))); replace HO1058 := Yt.mk (Kd.Yf (Qr1 HO1058.out) (Kd.Zw ho21) hb); replace BK1052 := Yt.mk (Zq (g := gb1052) (o := .cells #[.bool false, .slice none 0 0, .slice none 0 0] 50 (0, 0)) (Qr12 BK1052.out) hb); replace HB := Yt.mk (Zm (Qa0) hb); clear hb ho21))
     (try simp only [Act.put, List.setIfInBounds_toArray, List.set_cons_zero, List.set_cons_succ])
     go_cut [9] (fun v9 wc => ∃ (kq : Nat) (x9_17 : List Int) (x1053000_17 : Bool), Yt (ratio_Read.j3 kq x4_11 t1054 x9_17 = some (r1, r2, r3, r4)) ∧ Yt (kq ≤ kj11) ∧ Yt (Kd.R (Kd.int .u32) 47 wc w.heap.size (fun k_ => some k_ ≠ (v9 : Value).ownBlock) v1057 t1054) ∧ Yt (Kd.R (Kd.int .u32) 47 wc w.heap.size (fun k_ => some k_ ≠ (v1057 : Value).ownBlock) v9 x9_17) ∧ Yt (wc.heap[gb1052]? = some (.cells #[.bool x1053000_17, (.slice none 0 0), (.slice none 0 0)] 50 (0, 0))) ∧ Yt (Below w.heap.size w wc))
     case first =>
      have H := HC18.out
      clear HC18
      by_cases c22 : t1055 < (a0.size : Int)
      rotate_left
      ·rw [if_neg c22] at H
       have c22b0 : decide (t1055 < (a0.size : Int)) = false := decide_eq_false c22
       clear c22
       (first | rw [c22b0] | rw [c22b1] | (simp only [Yi, Yj]; rw [c22b0]) | skip)
       have H' := Yt.mk H
       clear H
       go_wp2
       go_meet
       case rel => exact ⟨_, (y1059), (false), H', ⟨by have := HJ4.out; have := HJ11.out; first | omega | exact Nat.le_refl _⟩, ⟨by (with_reducible repeat (first | apply Kd.Zf | apply Kd.Ze | apply Kd.Zj)); exact Kd.Zv HO1058.out (fun _ hk => hk.2)⟩, ⟨by (with_reducible repeat (first | apply Kd.Zf | apply Kd.Ze | apply Kd.Zj)); exact Kd.Zv HO1061.out (fun _ hk => hk.2)⟩, ⟨Qr12 BK1052.out⟩, ⟨Qa0⟩⟩
      rw [if_pos c22] at H
      have c22b0 : decide (t1055 < (a0.size : Int)) = true := decide_eq_true c22
      clear c22
      (first | rw [c22b0] | rw [c22b1] | (simp only [Yi, Yj]; rw [c22b0]) | skip)
      by_cases c23 : 0 ≤ t1055
      rotate_left
      ·rw [if_neg c23] at H
       exact absurd H (by simp)
      rw [if_pos c23] at H
      have c23b0 : decide (0 ≤ t1055) = true := decide_eq_true c23
      clear c23
      replace H := Option.bind_eq_some_iff.mp H
      obtain ⟨t1062, A250, H⟩ := H
      try dsimp only at H
      have A25 := Yt.mk A250
      clear A250
      by_cases c26 : t1062 = 3
      rotate_left
      ·rw [if_neg c26] at H
       have c26b0 : (t1062 == 3) = false := beq_eq_false_iff_ne.mpr c26
       have c26b1 : (t1062 != 3) = true := bne_iff_ne.mpr c26
       simp only [Option.some.injEq, Prod.mk.injEq] at H
       obtain ⟨rfl, rfl, rfl, rfl⟩ := H
       have p24 : 0 ≤ (t1055 : Int) := Qd
       have q24 : t1055 < (a0.size : Int) := Qd
       have hx24 := bt_at a0 t1055
       replace p24 := eq_true p24
       replace q24 := eq_true q24
       go_wp2_with (first | ((with_reducible refine Zr (f := 99) rfl ?_); refine Yg (some 43) rfl rfl Try.func99 Qa7 rfl #[.int .u8 (bt a0 t1055)] rfl Qa2 ?_; (with_reducible refine (ratio_class.calls (bt a0 t1055) t1062 _ A25.out).mono ?_); rintro e w36 ⟨rfl, hb⟩; refine ⟨_, rfl, ?_⟩; replace HO1058 := Yt.mk (Kd.Yd (Qr1 HO1058.out) hb); replace HO1061 := Yt.mk (Kd.Yd (Qr1 HO1061.out) hb); replace BK1052 := Yt.mk (Zq (g := gb1052) (o := .cells #[.bool false, .slice none 0 0, .slice none 0 0] 50 (0, 0)) (Qr12 BK1052.out) hb); replace HB := Yt.mk (Zm (Qa0) hb); (try clear hb); have hcz37_0 : w36.cell? ⟨gb1052, 0, none⟩ = some (.bool false) := (Zl BK1052.out 0).trans rfl; have hcz37_1 : w36.cell? ⟨gb1052, 1, none⟩ = some (.slice none 0 0) := (Zl BK1052.out 1).trans rfl; have hcz37_2 : w36.cell? ⟨gb1052, 2, none⟩ = some (.slice none 0 0) := (Zl BK1052.out 2).trans rfl; have hfz37_0 := Zn BK1052.out 0; have hfz37_1 := Zn BK1052.out 1; have hfz37_2 := Zn BK1052.out 2))
       refine bodyPost_ret (results_ct rfl _ _ gb1052 50 #[.bool false, .slice none 0 0, .slice none 0 0] (0, 0) _ rfl (by (with_reducible repeat (first | refine Zg ?_ _ | refine Zi ?_ | refine Zh ?_ _)); refine Ym (cs := #[.bool false, .slice none 0 0, .slice none 0 0]) ?_ 2 _ rfl; (with_reducible repeat (first | refine Zg ?_ _ | refine Zi ?_ | refine Zh ?_ _)); refine Ym (cs := #[.bool false, .slice none 0 0, .slice none 0 0]) ?_ 1 _ rfl; (with_reducible repeat (first | refine Zg ?_ _ | refine Zi ?_ | refine Zh ?_ _)); refine Ym (cs := #[.bool false, .slice none 0 0, .slice none 0 0]) ?_ 0 _ rfl; (with_reducible repeat (first | refine Zg ?_ _ | refine Zi ?_ | refine Zh ?_ _)); exact BK1052.out) Try.underlying50 rfl Qa7) rfl ?_
       exact ⟨_, _, Qa4, by first | exact Kd.R_nil _ _ _ _ _ | exact Kd.N_nil _ _ _ _ _ | exact Kd.V_nil _ _ _ _ _ | exact Kd.Q_nil _ _ _ _ _ | exact Kd.S_nil _ _ _ _ _, by first | exact Kd.R_nil _ _ _ _ _ | exact Kd.N_nil _ _ _ _ _ | exact Kd.V_nil _ _ _ _ _ | exact Kd.Q_nil _ _ _ _ _ | exact Kd.S_nil _ _ _ _ _, Qa0⟩
      rw [if_pos c26] at H
      have c26b0 : (t1062 == 3) = true := beq_iff_eq.mpr c26
      have c26b1 : (t1062 != 3) = false := bne_eq_false_iff_eq.mpr c26
      clear c26
      replace H := Option.bind_eq_some_iff.mp H
      obtain ⟨⟨t1063, t1064, t1065⟩, A270, H⟩ := H
      try dsimp only at H
      have A27 := Yt.mk A270
      clear A270
      have HC28 := Yt.mk H
      clear H
      have p24 : 0 ≤ (t1055 : Int) := Qd
      have q24 : t1055 < (a0.size : Int) := Qd
      have hx24 := bt_at a0 t1055
      replace p24 := eq_true p24
      replace q24 := eq_true q24
      go_upto_region 14 with (first | ((with_reducible refine Zr (f := 99) rfl ?_); refine Yg (some 43) rfl rfl Try.func99 Qa7 rfl #[.int .u8 (bt a0 t1055)] rfl Qa2 ?_; (with_reducible refine (ratio_class.calls (bt a0 t1055) t1062 _ A25.out).mono ?_); rintro e w29 ⟨rfl, hb⟩; refine ⟨_, rfl, ?_⟩; replace HO1058 := Yt.mk (Kd.Yd (Qr1 HO1058.out) hb); replace HO1061 := Yt.mk (Kd.Yd (Qr1 HO1061.out) hb); replace BK1052 := Yt.mk (Zq (g := gb1052) (o := .cells #[.bool false, .slice none 0 0, .slice none 0 0] 50 (0, 0)) (Qr12 BK1052.out) hb); replace HB := Yt.mk (Zm (Qa0) hb); (try clear hb)) | ((with_reducible refine Zr (f := 100) rfl ?_); refine Yg (some 50) rfl rfl Try.func100 Qa7 rfl #[.string a0, .int .i64 (wrap64 (t1055 + 1))] rfl Qa2 ?_; (with_reducible refine (ratio_natDigits.calls kj11 a0 (wrap64 (t1055 + 1)) t1063 t1064 t1065 _ A27.out).mono ?_); rintro e w30 ⟨v1066, rfl, ho0, hb⟩; refine ⟨_, rfl, ?_⟩; have HO1067 := Yt.mk (Kd.Yb (Kd.Ya (Kd.Ya ho0 (Kd.R_lt (Qr1 HO1058.out))) (Kd.R_lt (Qr1 HO1061.out))) (Zk (Qa0))); replace HO1058 := Yt.mk (Kd.Yf (Qr1 HO1058.out) (Kd.Zw ho0) hb); replace HO1061 := Yt.mk (Kd.Yf (Qr1 HO1061.out) (Kd.Zw ho0) hb); replace BK1052 := Yt.mk (Zq (g := gb1052) (o := .cells #[.bool false, .slice none 0 0, .slice none 0 0] 50 (0, 0)) (Qr12 BK1052.out) hb); replace HB := Yt.mk (Zm (Qa0) hb); (try clear hb); (try clear ho0)))
      (try simp only [Act.put, List.setIfInBounds_toArray, List.set_cons_zero, List.set_cons_succ])
      go_cut [66] (fun v66 wc => ∃ (kq : Nat) (x66_27 : Bool), v66 = .bool x66_27 ∧ Yt (ratio_Read.j2 kq x4_11 t1054 t1063 x66_27 = some (r1, r2, r3, r4)) ∧ Yt (kq ≤ kj11) ∧ Yt (Kd.R (Kd.int .u32) 47 wc w.heap.size (fun k_ => some k_ ≠ (v1066 : Value).ownBlock) v1057 t1054) ∧ Yt (Kd.R (Kd.int .u32) 47 wc w.heap.size (fun k_ => some k_ ≠ (v1057 : Value).ownBlock) v1066 t1063) ∧ Yt (wc.heap[gb1052]? = some (.cells #[.bool false, (.slice none 0 0), (.slice none 0 0)] 50 (0, 0))) ∧ Yt (Below w.heap.size w wc))
      case first =>
       have H := HC28.out
       clear HC28
       by_cases c31 : t1065 = true
       rotate_left
       ·replace c31 := Bool.eq_false_iff.mpr c31
        subst c31
        rw [if_neg (show ¬ (false = true) by decide)] at H
        have H' := Yt.mk H
        clear H
        go_wp2
        go_meet
        case rel => exact ⟨_, (true), Qa5, H', ⟨by have := HJ4.out; have := HJ11.out; first | omega | exact Nat.le_refl _⟩, ⟨by (with_reducible repeat (first | apply Kd.Zf | apply Kd.Ze | apply Kd.Zj)); exact Kd.Zv HO1058.out (fun _ hk => hk.2)⟩, ⟨by (with_reducible repeat (first | apply Kd.Zf | apply Kd.Ze | apply Kd.Zj)); exact Kd.Zv HO1067.out (fun _ hk => hk.1.2)⟩, ⟨Qr12 BK1052.out⟩, ⟨Qa0⟩⟩
       subst c31
       rw [if_pos rfl] at H
       by_cases c32 : t1064 < (a0.size : Int)
       ·rw [if_pos c32] at H
        have c32b0 : decide (t1064 < (a0.size : Int)) = true := decide_eq_true c32
        clear c32
        (first | rw [c32b0] | rw [c32b1] | (simp only [Yi, Yj]; rw [c32b0]) | skip)
        have H' := Yt.mk H
        clear H
        go_wp2
        go_meet
        case rel => exact ⟨_, (true), Qa5, H', ⟨by have := HJ4.out; have := HJ11.out; first | omega | exact Nat.le_refl _⟩, ⟨by (with_reducible repeat (first | apply Kd.Zf | apply Kd.Ze | apply Kd.Zj)); exact Kd.Zv HO1058.out (fun _ hk => hk.2)⟩, ⟨by (with_reducible repeat (first | apply Kd.Zf | apply Kd.Ze | apply Kd.Zj)); exact Kd.Zv HO1067.out (fun _ hk => hk.1.2)⟩, ⟨Qr12 BK1052.out⟩, ⟨Qa0⟩⟩
       rw [if_neg c32] at H
       have c32b0 : decide (t1064 < (a0.size : Int)) = false := decide_eq_false c32
       clear c32
       (first | rw [c32b0] | rw [c32b1] | (simp only [Yi, Yj]; rw [c32b0]) | skip)
       have H' := Yt.mk H
       clear H
       obtain ⟨Ao33, co33, eo33⟩ := Kd.Zx HO1067.out
       subst eo33
       go_wp2
       go_meet
       case rel => exact ⟨_, (((t1063.length : Int) == 0)), Qa5, H', ⟨by have := HJ4.out; have := HJ11.out; first | omega | exact Nat.le_refl _⟩, ⟨by (with_reducible repeat (first | apply Kd.Zf | apply Kd.Ze | apply Kd.Zj)); exact Kd.Zv HO1058.out (fun _ hk => hk.2)⟩, ⟨by (with_reducible repeat (first | apply Kd.Zf | apply Kd.Ze | apply Kd.Zj)); exact Kd.Zv HO1067.out (fun _ hk => hk.1.2)⟩, ⟨Qr12 BK1052.out⟩, ⟨Qa0⟩⟩
      case rest =>
       clear HC28
       try clear c1; try clear p1; try clear q1; try clear hx1; try clear qi1; try clear c2; try clear c2b0; try clear c2b1; try clear p2; try clear q2; try clear hx2; try clear c3; try clear c5; try clear p6; try clear c7; try clear c7b0; try clear c7b1; try clear c8; try clear c8b0; try clear c8b1; try clear c9; try clear p9; try clear q9; try clear hx9; try clear qi9; try clear c10; try clear c13; try clear c14; try clear c14b0; try clear c14b1; try clear p15; try clear q15; try clear hx15; try clear qi15; try clear c17; try clear c22; try clear c22b0; try clear c22b1; try clear c23; try clear c23b0; try clear p24; try clear q24; try clear hx24; try clear c26; try clear c26b0; try clear c26b1; try clear c31; try clear c32; try clear c32b0; try clear c32b1; try clear hcz4_0; try clear hcz4_1; try clear hcz4_2; try clear hfz4_0; try clear hfz4_1; try clear hfz4_2; try clear p1; try clear p15; try clear p2; try clear p24; try clear p9; try clear q1; try clear q15; try clear q24; try clear q9
       obtain ⟨kq, x66_27, rfl, HA, HJ27, HO_6, HO_9, BK1052, HB⟩ := hcut
       cases kq with
       | zero => exact absurd HA.out (by simp [ratio_Read.j2])
       | succ kj27 =>
        have H := HA.out
        clear HA
        simp only [ratio_Read.j2] at H
        by_cases c34 : x66_27 = true
        rotate_left
        ·replace c34 := Bool.eq_false_iff.mpr c34
         subst c34
         rw [if_neg (show ¬ (false = true) by decide)] at H
         have H' := Yt.mk H
         clear H
         go_wp2
         go_meet
         case rel => exact ⟨_, (t1063), (false), H', ⟨by have := HJ4.out; have := HJ11.out; have := HJ27.out; first | omega | exact Nat.le_refl _⟩, ⟨Qr1 HO_6.out⟩, ⟨Qr1 HO_9.out⟩, ⟨Qr12 BK1052.out⟩, ⟨Qa0⟩⟩
        subst c34
        rw [if_pos rfl] at H
        simp only [Option.some.injEq, Prod.mk.injEq] at H
        obtain ⟨rfl, rfl, rfl, rfl⟩ := H
        have hcz35_0 : wc.cell? ⟨gb1052, 0, none⟩ = some (.bool false) := (Zl BK1052.out 0).trans rfl
        have hcz35_1 : wc.cell? ⟨gb1052, 1, none⟩ = some (.slice none 0 0) := (Zl BK1052.out 1).trans rfl
        have hcz35_2 : wc.cell? ⟨gb1052, 2, none⟩ = some (.slice none 0 0) := (Zl BK1052.out 2).trans rfl
        have hfz35_0 := Zn BK1052.out 0
        have hfz35_1 := Zn BK1052.out 1
        have hfz35_2 := Zn BK1052.out 2
        go_wp2
        refine bodyPost_ret (results_ct rfl _ _ gb1052 50 #[.bool false, .slice none 0 0, .slice none 0 0] (0, 0) _ rfl (by (with_reducible repeat (first | refine Zg ?_ _ | refine Zi ?_ | refine Zh ?_ _)); refine Ym (cs := #[.bool false, .slice none 0 0, .slice none 0 0]) ?_ 2 _ rfl; (with_reducible repeat (first | refine Zg ?_ _ | refine Zi ?_ | refine Zh ?_ _)); refine Ym (cs := #[.bool false, .slice none 0 0, .slice none 0 0]) ?_ 1 _ rfl; (with_reducible repeat (first | refine Zg ?_ _ | refine Zi ?_ | refine Zh ?_ _)); refine Ym (cs := #[.bool false, .slice none 0 0, .slice none 0 0]) ?_ 0 _ rfl; (with_reducible repeat (first | refine Zg ?_ _ | refine Zi ?_ | refine Zh ?_ _)); exact BK1052.out) Try.underlying50 rfl Qa7) rfl ?_
        exact ⟨_, _, Qa4, by first | exact Kd.R_nil _ _ _ _ _ | exact Kd.N_nil _ _ _ _ _ | exact Kd.V_nil _ _ _ _ _ | exact Kd.Q_nil _ _ _ _ _ | exact Kd.S_nil _ _ _ _ _, by first | exact Kd.R_nil _ _ _ _ _ | exact Kd.N_nil _ _ _ _ _ | exact Kd.V_nil _ _ _ _ _ | exact Kd.Q_nil _ _ _ _ _ | exact Kd.S_nil _ _ _ _ _, Qa0⟩
     case rest =>
      clear HC18
      try clear c1; try clear p1; try clear q1; try clear hx1; try clear qi1; try clear c2; try clear c2b0; try clear c2b1; try clear p2; try clear q2; try clear hx2; try clear c3; try clear c5; try clear p6; try clear c7; try clear c7b0; try clear c7b1; try clear c8; try clear c8b0; try clear c8b1; try clear c9; try clear p9; try clear q9; try clear hx9; try clear qi9; try clear c10; try clear c13; try clear c14; try clear c14b0; try clear c14b1; try clear p15; try clear q15; try clear hx15; try clear qi15; try clear c17; try clear c22; try clear c22b0; try clear c22b1; try clear c23; try clear c23b0; try clear p24; try clear q24; try clear hx24; try clear c26; try clear c26b0; try clear c26b1; try clear c31; try clear c32; try clear c32b0; try clear c32b1; try clear c34; try clear hcz35_0; try clear hcz35_1; try clear hcz35_2; try clear hcz37_0; try clear hcz37_1; try clear hcz37_2; try clear hcz4_0; try clear hcz4_1; try clear hcz4_2; try clear hfz35_0; try clear hfz35_1; try clear hfz35_2; try clear hfz37_0; try clear hfz37_1; try clear hfz37_2; try clear hfz4_0; try clear hfz4_1; try clear hfz4_2; try clear p1; try clear p15; try clear p2; try clear p24; try clear p6; try clear p9; try clear q1; try clear q15; try clear q2; try clear q24; try clear q9
      obtain ⟨kq, x9_17, x1053000_17, HA, HJ17, HO_6, HO_9, BK1052, HB⟩ := hcut
      cases kq with
      | zero => exact absurd HA.out (by simp [ratio_Read.j3])
      | succ kj17 =>
       have H := HA.out
       clear HA
       simp only [ratio_Read.j3] at H
       replace H := Option.bind_eq_some_iff.mp H
       obtain ⟨⟨t1068, t1069, t1072, t1075⟩, A380, H⟩ := H
       replace H : (some (t1068, t1069, t1072, t1075)) = some (r1, r2, r3, r4) := H
       have A38 := Yt.mk A380
       clear A380
       simp only [Option.some.injEq, Prod.mk.injEq] at H
       obtain ⟨rfl, rfl, rfl, rfl⟩ := H
       obtain ⟨Ao39, co39, eo39⟩ := Kd.Zx HO_6.out
       subst eo39
       obtain ⟨Ao40, co40, eo40⟩ := Kd.Zx HO_9.out
       subst eo40
       go_wp2_with (first | ((with_reducible refine Zr (f := 48) rfl ?_); refine Yg (some 71) rfl rfl Try.func48 Qa7 rfl #[.bool x4_11, .slice Ao39 t1054.length co39, .slice Ao40 x9_17.length co40] rfl Qa2 ?_; (with_reducible refine (ratio_Make.calls kj17 x4_11 _ _ t1054 _ _ x9_17 t1068 t1069 t1072 t1075 _ ?side1 ?side2 ?side3 ?side4 A38.out).mono ?_); (case side1 => exact Qe9 (Kd.Zs HO_6.out).2.2); (case side2 => exact (Kd.Zs HO_6.out).2.1); (case side3 => exact Qe9 (Kd.Zs HO_9.out).2.2); (case side4 => exact (Kd.Zs HO_9.out).2.1); rintro e w41 ⟨v1070, v1073, rfl, ho0, ho1, hb⟩; refine ⟨_, rfl, ?_⟩; have HO1071 := Yt.mk (Kd.Yb (Kd.Ya (Kd.Ya ho0 (Kd.R_lt (Qr1 HO_6.out))) (Kd.R_lt (Qr1 HO_9.out))) (Zk (Qa0))); have HO1074 := Yt.mk (Kd.Yb (Kd.Ya (Kd.Ya ho1 (Kd.R_lt (Qr1 HO_6.out))) (Kd.R_lt (Qr1 HO_9.out))) (Zk (Qa0))); replace HO_6 := Yt.mk (Kd.Zv (Kd.Yl (Kd.Yl (Kd.R_old (Qr1 HO_6.out) hb) (Kd.Zw ho0)) (Kd.Zw ho1)) (fun _ h_ => h_.1)); replace HO_9 := Yt.mk (Kd.Zv (Kd.Yl (Kd.Yl (Kd.R_old (Qr1 HO_9.out) hb) (Kd.Zw ho0)) (Kd.Zw ho1)) (fun _ h_ => h_.1)); replace BK1052 := Yt.mk (Zq (g := gb1052) (o := .cells #[.bool x1053000_17, .slice none 0 0, .slice none 0 0] 50 (0, 0)) (Qr12 BK1052.out) hb); replace HB := Yt.mk (Zm (Qa0) hb); (try clear hb); (try clear ho0); (try clear ho1); have hcz42_0 : w41.cell? ⟨gb1052, 0, none⟩ = some (.bool x1053000_17) := (Zl BK1052.out 0).trans rfl; have hcz42_1 : w41.cell? ⟨gb1052, 1, none⟩ = some (.slice none 0 0) := (Zl BK1052.out 1).trans rfl; have hcz42_2 : w41.cell? ⟨gb1052, 2, none⟩ = some (.slice none 0 0) := (Zl BK1052.out 2).trans rfl; have hfz42_0 := Zn BK1052.out 0; have hfz42_1 := Zn BK1052.out 1; have hfz42_2 := Zn BK1052.out 2; obtain ⟨Ao43, co43, eo43⟩ := Kd.Zx HO1071.out; subst eo43; obtain ⟨Ao44, co44, eo44⟩ := Kd.Zx HO1074.out; subst eo44))
       refine bodyPost_ret (results_ct rfl _ _ gb1052 50 #[.bool t1068, .slice Ao43 t1069.length co43, .slice Ao44 t1072.length co44] (0, 0) _ rfl (by (with_reducible repeat (first | refine Zg ?_ _ | refine Zi ?_ | refine Zh ?_ _)); refine Ym (cs := #[.bool t1068, .slice Ao43 t1069.length co43, .slice none 0 0]) ?_ 2 _ rfl; (with_reducible repeat (first | refine Zg ?_ _ | refine Zi ?_ | refine Zh ?_ _)); refine Ym (cs := #[.bool t1068, .slice none 0 0, .slice none 0 0]) ?_ 1 _ rfl; (with_reducible repeat (first | refine Zg ?_ _ | refine Zi ?_ | refine Zh ?_ _)); refine Ym (cs := #[.bool x1053000_17, .slice none 0 0, .slice none 0 0]) ?_ 0 _ rfl; (with_reducible repeat (first | refine Zg ?_ _ | refine Zi ?_ | refine Zh ?_ _)); exact BK1052.out) Try.underlying50 rfl Qa7) rfl ?_
       exact ⟨_, _, Qa4, by (with_reducible repeat (first | apply Kd.Zf | apply Kd.Ze | apply Kd.Zj)); exact Kd.Zv (Kd.Yh (p := ⟨gb1052, 2, none⟩) (Kd.Yh (p := ⟨gb1052, 1, none⟩) (Kd.Yh (p := ⟨gb1052, 0, none⟩) (Kd.Yq HO1071.out BK1052.out (by decide)) (fun _ hk => hk.2) (.bool t1068)) (fun _ hk => hk.2) (.slice Ao43 t1069.length co43)) (fun _ hk => hk.2) (.slice Ao44 t1072.length co44)) (fun _ hk => hk.1.1.1), by (with_reducible repeat (first | apply Kd.Zf | apply Kd.Ze | apply Kd.Zj)); exact Kd.Zv (Kd.Yh (p := ⟨gb1052, 2, none⟩) (Kd.Yh (p := ⟨gb1052, 1, none⟩) (Kd.Yh (p := ⟨gb1052, 0, none⟩) (Kd.Yq HO1074.out BK1052.out (by decide)) (fun _ hk => hk.2) (.bool t1068)) (fun _ hk => hk.2) (.slice Ao43 t1069.length co43)) (fun _ hk => hk.2) (.slice Ao44 t1072.length co44)) (fun _ hk => hk.1.1.1), Qa0⟩
def w2_wakes.f (k : Nat)  : Option (Bool) := (ratio_Make.f k true (([6] : List Int)) (([4] : List Int))).bind fun bt1124 => ((ratio_Text.f k bt1124.1 bt1124.2.1 bt1124.2.2.1).bind fun bt1133 => ((ratio_Read.f k (⟨#[43, 48, 54, 47, 52]⟩ : ByteArray)).bind fun bt1135 => ((ratio_Add.f k bt1135.1 bt1135.2.1 bt1135.2.2.1 bt1124.1 bt1124.2.1 bt1124.2.2.1).bind fun bt1144 => (if bt1124.2.2.2 = 0 then (if bt1133.2 = 0 then (if bt1135.2.2.2 = 0 then (if bt1144.2.2.2 = 0 then (if bt1133.1.toList = ([45, 51, 47, 50] : List UInt8) then ((ratio_Of.f k 0).bind fun bt1153 => ((ratio_Same.f k bt1144.1 bt1144.2.1 bt1144.2.2.1 bt1153.1 bt1153.2.1 bt1153.2.2).bind fun t1160 => (if t1160 = true then ((ratio_Form.f k bt1124.1 bt1124.2.1 bt1124.2.2.1).bind fun t1161 => (if t1161 = true then ((ratio_Form.f k false ([] : List Int) ([] : List Int)).bind fun t1162 => (if t1162 = true then (none) else ((ratio_Same.f k bt1124.1 bt1124.2.1 bt1124.2.2.1 bt1135.1 bt1135.2.1 bt1135.2.2.1).bind fun t1163 => (some (!t1163))))) else (none))) else (none)))) else (none)) else (none)) else (none)) else (none)) else (none)))))
theorem w2_wakes.mono : ∀ k, LeO (w2_wakes.f k ) (w2_wakes.f (k + 1) ) := by
 intro  k
 unfold w2_wakes.f
 have m0 := @ratio_Add.mono
 have m1 := @ratio_Form.mono
 have m2 := @ratio_Make.mono
 have m3 := @ratio_Of.mono
 have m4 := @ratio_Read.mono
 have m5 := @ratio_Same.mono
 have m6 := @ratio_Text.mono
 exact Qa6
def w2_wakes.T7 : Bool × List (List Nat × List Nat) := (true, [([], []), ([], []), ([0, 1, 1], [0, 1]), ([2, 2], [2]), ([3], [3]), ([4, 3, 3], [3, 4]), ([3, 5], [3, 5]), ([6, 5], [6]), ([7], [7]), ([8, 7, 7], [7, 8]), ([9, 7], [7, 9]), ([7, 10], [7, 10]), ([11, 9], [11]), ([12], [12]), ([12], [12]), ([13, 14, 12, 12], [12, 13, 14]), ([15, 12], [12, 15]), ([12, 16], [12, 16]), ([17, 15, 0, 1, 2, 3, 4, 5, 6, 7, 8, 9, 10, 11, 12, 13, 14, 15, 16, 17], [17])])
def w2_wakes.B7 : List Nat := [0, 0, 3, 7, 15, 31, 63, 127, 255, 511, 1023, 2047, 4095, 8191, 8191, 32767, 65535, 131071, 262143]
theorem w2_wakes.tab7 : rtab .any (opsOf Try.f47 7) = w2_wakes.T7 := by kernel_rfl
theorem w2_wakes.bits7 : waitsOk w2_wakes.T7.2 w2_wakes.B7 = true := by kernel_rfl
theorem w2_wakes.calls (k : Nat)  (r : Bool) (w : World) (h : w2_wakes.f k  = some r) :
  Calls Try.prog 47 #[] w fun e w' => e = .returned (.bool r) ∧ Below w.heap.size w w' := by
 have hu50 := Try.underlying50
 have HB := Yt.mk (Below.refl w.heap.size w)
 unfold w2_wakes.f at h
 have H := h
 clear h
 obtain ⟨y1118, hy1118⟩ : ∃ y_ : List Int, y_ = (([6] : List Int)) := ⟨_, rfl⟩
 replace H : ((ratio_Make.f k true y1118 (([4] : List Int))).bind fun bt1124 => ((ratio_Text.f k bt1124.1 bt1124.2.1 bt1124.2.2.1).bind fun bt1133 => ((ratio_Read.f k (⟨#[43, 48, 54, 47, 52]⟩ : ByteArray)).bind fun bt1135 => ((ratio_Add.f k bt1135.1 bt1135.2.1 bt1135.2.2.1 bt1124.1 bt1124.2.1 bt1124.2.2.1).bind fun bt1144 => (if bt1124.2.2.2 = 0 then (if bt1133.2 = 0 then (if bt1135.2.2.2 = 0 then (if bt1144.2.2.2 = 0 then (if bt1133.1.toList = ([45, 51, 47, 50] : List UInt8) then ((ratio_Of.f k 0).bind fun bt1153 => ((ratio_Same.f k bt1144.1 bt1144.2.1 bt1144.2.2.1 bt1153.1 bt1153.2.1 bt1153.2.2).bind fun t1160 => (if t1160 = true then ((ratio_Form.f k bt1124.1 bt1124.2.1 bt1124.2.2.1).bind fun t1161 => (if t1161 = true then ((ratio_Form.f k false ([] : List Int) ([] : List Int)).bind fun t1162 => (if t1162 = true then (none) else ((ratio_Same.f k bt1124.1 bt1124.2.1 bt1124.2.2.1 bt1135.1 bt1135.2.1 bt1135.2.2.1).bind fun t1163 => (some (!t1163))))) else (none))) else (none)))) else (none)) else (none)) else (none)) else (none)) else (none)))))) = some r := Qh hy1118 H
 have Ny1118 := Yt.mk hy1118
 clear hy1118
 obtain ⟨y1121, hy1121⟩ : ∃ y_ : List Int, y_ = (([4] : List Int)) := ⟨_, rfl⟩
 replace H : ((ratio_Make.f k true y1118 y1121).bind fun bt1124 => ((ratio_Text.f k bt1124.1 bt1124.2.1 bt1124.2.2.1).bind fun bt1133 => ((ratio_Read.f k (⟨#[43, 48, 54, 47, 52]⟩ : ByteArray)).bind fun bt1135 => ((ratio_Add.f k bt1135.1 bt1135.2.1 bt1135.2.2.1 bt1124.1 bt1124.2.1 bt1124.2.2.1).bind fun bt1144 => (if bt1124.2.2.2 = 0 then (if bt1133.2 = 0 then (if bt1135.2.2.2 = 0 then (if bt1144.2.2.2 = 0 then (if bt1133.1.toList = ([45, 51, 47, 50] : List UInt8) then ((ratio_Of.f k 0).bind fun bt1153 => ((ratio_Same.f k bt1144.1 bt1144.2.1 bt1144.2.2.1 bt1153.1 bt1153.2.1 bt1153.2.2).bind fun t1160 => (if t1160 = true then ((ratio_Form.f k bt1124.1 bt1124.2.1 bt1124.2.2.1).bind fun t1161 => (if t1161 = true then ((ratio_Form.f k false ([] : List Int) ([] : List Int)).bind fun t1162 => (if t1162 = true then (none) else ((ratio_Same.f k bt1124.1 bt1124.2.1 bt1124.2.2.1 bt1135.1 bt1135.2.1 bt1135.2.2.1).bind fun t1163 => (some (!t1163))))) else (none))) else (none)))) else (none)) else (none)) else (none)) else (none)) else (none)))))) = some r := Qh hy1121 H
 have Ny1121 := Yt.mk hy1121
 clear hy1121
 replace H := Option.bind_eq_some_iff.mp H
 obtain ⟨⟨t1124, t1125, t1128, t1131⟩, A10, H⟩ := H
 try dsimp only at H
 have A1 := Yt.mk A10
 clear A10
 replace H := Option.bind_eq_some_iff.mp H
 obtain ⟨⟨t1133, t1134⟩, A20, H⟩ := H
 try dsimp only at H
 have A2 := Yt.mk A20
 clear A20
 replace H := Option.bind_eq_some_iff.mp H
 obtain ⟨⟨t1135, t1136, t1139, t1142⟩, A30, H⟩ := H
 try dsimp only at H
 have A3 := Yt.mk A30
 clear A30
 replace H := Option.bind_eq_some_iff.mp H
 obtain ⟨⟨t1144, t1145, t1148, t1151⟩, A40, H⟩ := H
 try dsimp only at H
 have A4 := Yt.mk A40
 clear A40
 by_cases c5 : t1131 = 0
 rotate_left
 ·rw [if_neg c5] at H
  exact absurd H (by simp)
 rw [if_pos c5] at H
 have c5b0 : (t1131 == 0) = true := beq_iff_eq.mpr c5
 have c5b1 : (t1131 != 0) = false := bne_eq_false_iff_eq.mpr c5
 clear c5
 by_cases c6 : t1134 = 0
 rotate_left
 ·rw [if_neg c6] at H
  exact absurd H (by simp)
 rw [if_pos c6] at H
 have c6b0 : (t1134 == 0) = true := beq_iff_eq.mpr c6
 have c6b1 : (t1134 != 0) = false := bne_eq_false_iff_eq.mpr c6
 clear c6
 by_cases c7 : t1142 = 0
 rotate_left
 ·rw [if_neg c7] at H
  exact absurd H (by simp)
 rw [if_pos c7] at H
 have c7b0 : (t1142 == 0) = true := beq_iff_eq.mpr c7
 have c7b1 : (t1142 != 0) = false := bne_eq_false_iff_eq.mpr c7
 clear c7
 by_cases c8 : t1151 = 0
 rotate_left
 ·rw [if_neg c8] at H
  exact absurd H (by simp)
 rw [if_pos c8] at H
 have c8b0 : (t1151 == 0) = true := beq_iff_eq.mpr c8
 have c8b1 : (t1151 != 0) = false := bne_eq_false_iff_eq.mpr c8
 clear c8
 by_cases c9 : t1133.toList = ([45, 51, 47, 50] : List UInt8)
 rotate_left
 ·rw [if_neg c9] at H
  exact absurd H (by simp)
 rw [if_pos c9] at H
 have c9b0 : (t1133.toList == ([45, 51, 47, 50] : List UInt8)) = true := beq_iff_eq.mpr c9
 have c9b1 : (t1133.toList != ([45, 51, 47, 50] : List UInt8)) = false := bne_eq_false_iff_eq.mpr c9
 clear c9
 replace H := Option.bind_eq_some_iff.mp H
 obtain ⟨⟨t1153, t1154, t1157⟩, A100, H⟩ := H
 try dsimp only at H
 have A10 := Yt.mk A100
 clear A100
 replace H := Option.bind_eq_some_iff.mp H
 obtain ⟨t1160, A110, H⟩ := H
 try dsimp only at H
 have A11 := Yt.mk A110
 clear A110
 by_cases c12 : t1160 = true
 rotate_left
 ·replace c12 := Bool.eq_false_iff.mpr c12
  subst c12
  rw [if_neg (show ¬ (false = true) by decide)] at H
  exact absurd H (by simp)
 subst c12
 rw [if_pos rfl] at H
 replace H := Option.bind_eq_some_iff.mp H
 obtain ⟨t1161, A130, H⟩ := H
 try dsimp only at H
 have A13 := Yt.mk A130
 clear A130
 by_cases c14 : t1161 = true
 rotate_left
 ·replace c14 := Bool.eq_false_iff.mpr c14
  subst c14
  rw [if_neg (show ¬ (false = true) by decide)] at H
  exact absurd H (by simp)
 subst c14
 rw [if_pos rfl] at H
 replace H := Option.bind_eq_some_iff.mp H
 obtain ⟨t1162, A150, H⟩ := H
 try dsimp only at H
 have A15 := Yt.mk A150
 clear A150
 by_cases c16 : t1162 = true
 ·subst c16
  rw [if_pos rfl] at H
  exact absurd H (by simp)
 replace c16 := Bool.eq_false_iff.mpr c16
 subst c16
 rw [if_neg (show ¬ (false = true) by decide)] at H
 replace H := Option.bind_eq_some_iff.mp H
 obtain ⟨t1163, A170, H⟩ := H
 replace H : (some (!t1163)) = some r := H
 have A17 := Yt.mk A170
 clear A170
 obtain rfl := Option.some.inj H
 go_enter Try.func47, Try.ntmps47
 try go_wp2_with (first | ((with_reducible refine Yk (N := 10) rfl ?_); refine Kd.R_lit (Kd.int .u32) _ 47 ?hg (N := 10) ?hd (xs := ([6] : List Int)) (inner := [.int .u32 6]) (ok := fun _ => True) (okp := fun _ => True) ?hr ?hp (fun _ hk => hk) trivial (Below.refl _ _) (Nat.le_refl _) (by simp) ?_; (case hd => rfl); (case hg => rfl); (case hr => exact Qa8); (case hp => exact (Reps.one (show Kd.M (Kd.int .u32) _ _ _ 6 [.int .u32 6] from rfl) (Reps.none _ _))); intro v1119 w18 ho19 hb hg_ hnew_; clear hg_ hnew_; (first | rw [← Ny1118.out] at ho19 | (simp only [Int.reduceToNat] at ho19; rw [← Ny1118.out] at ho19)); have HO1120 := Yt.mk (Kd.Yb ho19 (Zk (Qa0))); replace HB := Yt.mk (Zm (Qa0) hb); clear hb ho19) | ((with_reducible refine Yk (N := 11) rfl ?_); refine Kd.R_lit (Kd.int .u32) _ 47 ?hg (N := 11) ?hd (xs := ([4] : List Int)) (inner := [.int .u32 4]) (ok := fun _ => True) (okp := fun _ => True) ?hr ?hp (fun _ hk => hk) trivial (Below.refl _ _) (Nat.le_refl _) (by simp) ?_; (case hd => rfl); (case hg => rfl); (case hr => exact Qa8); (case hp => exact (Reps.one (show Kd.M (Kd.int .u32) _ _ _ 4 [.int .u32 4] from rfl) (Reps.none _ _))); intro v1122 w20 ho21 hb hg_ hnew_; clear hg_ hnew_; (first | rw [← Ny1121.out] at ho21 | (simp only [Int.reduceToNat] at ho21; rw [← Ny1121.out] at ho21)); have HO1123 := Yt.mk (Kd.Yb (Kd.Ya ho21 (Kd.R_lt (Qr1 HO1120.out))) (Zk (Qa0))); replace HO1120 := Yt.mk (Kd.Yf (Qr1 HO1120.out) (Kd.Zw ho21) hb); replace HB := Yt.mk (Zm (Qa0) hb); clear hb ho21; obtain ⟨Ao22, co22, eo22⟩ := Kd.Zx HO1120.out; subst eo22; obtain ⟨Ao23, co23, eo23⟩ := Kd.Zx HO1123.out; subst eo23) | ((with_reducible refine Zr (f := 48) rfl ?_); refine Yg (some 12) rfl rfl Try.func48 Qa7 rfl #[.bool true, .slice Ao22 y1118.length co22, .slice Ao23 y1121.length co23] rfl Qa2 ?_; (with_reducible refine (ratio_Make.calls k true _ _ y1118 _ _ y1121 t1124 t1125 t1128 t1131 _ ?side1 ?side2 ?side3 ?side4 A1.out).mono ?_); (case side1 => exact Qe9 (Kd.Zs HO1120.out).2.2); (case side2 => exact (Kd.Zs HO1120.out).2.1); (case side3 => exact Qe9 (Kd.Zs HO1123.out).2.2); (case side4 => exact (Kd.Zs HO1123.out).2.1); rintro e w24 ⟨v1126, v1129, rfl, ho0, ho1, hb⟩; refine ⟨_, rfl, ?_⟩; have HO1127 := Yt.mk (Kd.Yb (Kd.Ya (Kd.Ya ho0 (Kd.R_lt (Qr1 HO1120.out))) (Kd.R_lt (Qr1 HO1123.out))) (Zk (Qa0))); have HO1130 := Yt.mk (Kd.Yb (Kd.Ya (Kd.Ya ho1 (Kd.R_lt (Qr1 HO1120.out))) (Kd.R_lt (Qr1 HO1123.out))) (Zk (Qa0))); replace HO1120 := Yt.mk (Kd.Zv (Kd.Yl (Kd.Yl (Kd.R_old (Qr1 HO1120.out) hb) (Kd.Zw ho0)) (Kd.Zw ho1)) (fun _ h_ => h_.1)); replace HO1123 := Yt.mk (Kd.Zv (Kd.Yl (Kd.Yl (Kd.R_old (Qr1 HO1123.out) hb) (Kd.Zw ho0)) (Kd.Zw ho1)) (fun _ h_ => h_.1)); replace HB := Yt.mk (Zm (Qa0) hb); (try clear hb); (try clear ho0); (try clear ho1)) | ((with_reducible refine Yk (N := 1) rfl ?_); refine Yo ?hg (N := 1) ?hd (cs := #[.bool false, .slice none 0 0, .slice none 0 0]) (t := 50) ?hr ?_; (case hd => rfl); (case hg => rfl); (case hr => exact Qa8); intro gb1132 hg w25 hbox hb; replace HO1120 := Yt.mk (Kd.Yd (Qr1 HO1120.out) hb); replace HO1123 := Yt.mk (Kd.Yd (Qr1 HO1123.out) hb); replace HO1127 := Yt.mk (Kd.Yd (Qr1 HO1127.out) hb); replace HO1130 := Yt.mk (Kd.Yd (Qr1 HO1130.out) hb); have BK1132 := Yt.mk (hbox); have GW1132 := Yt.mk ((by rw [hg]; exact (Zk (Qa0)) : w.heap.size ≤ gb1132)); have GE1132 := Yt.mk ((by rw [hg]; exact (Zk (Qa0)) : w.heap.size ≤ gb1132)); replace HB := Yt.mk (Zm (Qa0) hb); clear hb hbox hg; have hcz26_0 : w25.cell? ⟨gb1132, 0, none⟩ = some (.bool false) := (Zl BK1132.out 0).trans rfl; have hcz26_1 : w25.cell? ⟨gb1132, 1, none⟩ = some (.slice none 0 0) := (Zl BK1132.out 1).trans rfl; have hcz26_2 : w25.cell? ⟨gb1132, 2, none⟩ = some (.slice none 0 0) := (Zl BK1132.out 2).trans rfl; have hfz26_0 := Zn BK1132.out 0; have hfz26_1 := Zn BK1132.out 1; have hfz26_2 := Zn BK1132.out 2; obtain ⟨Ao27, co27, eo27⟩ := Kd.Zx HO1127.out; subst eo27; obtain ⟨Ao28, co28, eo28⟩ := Kd.Zx HO1130.out; subst eo28) | ((with_reducible refine Zr (f := 57) rfl ?_); refine Yg (some 17) rfl rfl Try.func57 Qa7 rfl #[.agg #[.bool t1124, .slice Ao27 t1125.length co27, .slice Ao28 t1128.length co28]] rfl Qa2 ?_; (with_reducible refine (ratio_Text.calls k t1124 _ _ t1125 _ _ t1128 t1133 t1134 _ ?side1 ?side2 ?side3 ?side4 A2.out).mono ?_); (case side1 => refine (Kd.Zs (e := 47) (base := w.heap.size) (ok := fun k_ => ((some k_ ≠ (.slice Ao28 t1128.length co28 : Value).ownBlock ∧ some k_ ≠ (.slice Ao22 y1118.length co22 : Value).ownBlock) ∧ some k_ ≠ (.slice Ao23 y1121.length co23 : Value).ownBlock)) (n := t1125.length) (c := co27) ?_).2.2; exact (by (with_reducible repeat (first | apply Kd.Zf | apply Kd.Ze | apply Kd.Zj)); exact (Kd.Zv (Kd.Yh (p := ⟨gb1132, 2, none⟩) (Kd.Yh (p := ⟨gb1132, 1, none⟩) (Kd.Yh (p := ⟨gb1132, 0, none⟩) (Kd.Yq HO1127.out BK1132.out (by decide)) (fun _ hk => hk.2) (.bool t1124)) (fun _ hk => hk.2) (.slice Ao27 t1125.length co27)) (fun _ hk => hk.2) (.slice Ao28 t1128.length co28)) (fun _ h_ => h_.1)))); (case side2 => exact (Kd.Zs HO1127.out).2.1); (case side3 => refine (Kd.Zs (e := 47) (base := w.heap.size) (ok := fun k_ => ((some k_ ≠ (.slice Ao27 t1125.length co27 : Value).ownBlock ∧ some k_ ≠ (.slice Ao22 y1118.length co22 : Value).ownBlock) ∧ some k_ ≠ (.slice Ao23 y1121.length co23 : Value).ownBlock)) (n := t1128.length) (c := co28) ?_).2.2; exact (by (with_reducible repeat (first | apply Kd.Zf | apply Kd.Ze | apply Kd.Zj)); exact (Kd.Zv (Kd.Yh (p := ⟨gb1132, 2, none⟩) (Kd.Yh (p := ⟨gb1132, 1, none⟩) (Kd.Yh (p := ⟨gb1132, 0, none⟩) (Kd.Yq HO1130.out BK1132.out (by decide)) (fun _ hk => hk.2) (.bool t1124)) (fun _ hk => hk.2) (.slice Ao27 t1125.length co27)) (fun _ hk => hk.2) (.slice Ao28 t1128.length co28)) (fun _ h_ => h_.1)))); (case side4 => exact (Kd.Zs HO1130.out).2.1); rintro e w29 ⟨rfl, hb⟩; refine ⟨_, rfl, ?_⟩; replace HO1120 := Yt.mk (Kd.Yd (by (with_reducible repeat (first | apply Kd.Zf | apply Kd.Ze | apply Kd.Zj)); exact (Kd.Zv (Kd.Yh (p := ⟨gb1132, 2, none⟩) (Kd.Yh (p := ⟨gb1132, 1, none⟩) (Kd.Yh (p := ⟨gb1132, 0, none⟩) (Kd.Yq HO1120.out BK1132.out (by decide)) (fun _ hk => hk.2) (.bool t1124)) (fun _ hk => hk.2) (.slice Ao27 t1125.length co27)) (fun _ hk => hk.2) (.slice Ao28 t1128.length co28)) (fun _ h_ => h_.1))) hb); replace HO1123 := Yt.mk (Kd.Yd (by (with_reducible repeat (first | apply Kd.Zf | apply Kd.Ze | apply Kd.Zj)); exact (Kd.Zv (Kd.Yh (p := ⟨gb1132, 2, none⟩) (Kd.Yh (p := ⟨gb1132, 1, none⟩) (Kd.Yh (p := ⟨gb1132, 0, none⟩) (Kd.Yq HO1123.out BK1132.out (by decide)) (fun _ hk => hk.2) (.bool t1124)) (fun _ hk => hk.2) (.slice Ao27 t1125.length co27)) (fun _ hk => hk.2) (.slice Ao28 t1128.length co28)) (fun _ h_ => h_.1))) hb); replace HO1127 := Yt.mk (Kd.Yd (by (with_reducible repeat (first | apply Kd.Zf | apply Kd.Ze | apply Kd.Zj)); exact (Kd.Zv (Kd.Yh (p := ⟨gb1132, 2, none⟩) (Kd.Yh (p := ⟨gb1132, 1, none⟩) (Kd.Yh (p := ⟨gb1132, 0, none⟩) (Kd.Yq HO1127.out BK1132.out (by decide)) (fun _ hk => hk.2) (.bool t1124)) (fun _ hk => hk.2) (.slice Ao27 t1125.length co27)) (fun _ hk => hk.2) (.slice Ao28 t1128.length co28)) (fun _ h_ => h_.1))) hb); replace HO1130 := Yt.mk (Kd.Yd (by (with_reducible repeat (first | apply Kd.Zf | apply Kd.Ze | apply Kd.Zj)); exact (Kd.Zv (Kd.Yh (p := ⟨gb1132, 2, none⟩) (Kd.Yh (p := ⟨gb1132, 1, none⟩) (Kd.Yh (p := ⟨gb1132, 0, none⟩) (Kd.Yq HO1130.out BK1132.out (by decide)) (fun _ hk => hk.2) (.bool t1124)) (fun _ hk => hk.2) (.slice Ao27 t1125.length co27)) (fun _ hk => hk.2) (.slice Ao28 t1128.length co28)) (fun _ h_ => h_.1))) hb); replace BK1132 := Yt.mk (Zq (g := gb1132) (o := .cells #[.bool t1124, .slice Ao27 t1125.length co27, .slice Ao28 t1128.length co28] 50 (0, 0)) (by (with_reducible repeat (first | refine Zg ?_ _ | refine Zi ?_ | refine Zh ?_ _)); refine Ym (cs := #[.bool t1124, .slice Ao27 t1125.length co27, .slice none 0 0]) ?_ 2 _ rfl; (with_reducible repeat (first | refine Zg ?_ _ | refine Zi ?_ | refine Zh ?_ _)); refine Ym (cs := #[.bool t1124, .slice none 0 0, .slice none 0 0]) ?_ 1 _ rfl; (with_reducible repeat (first | refine Zg ?_ _ | refine Zi ?_ | refine Zh ?_ _)); refine Ym (cs := #[.bool false, .slice none 0 0, .slice none 0 0]) ?_ 0 _ rfl; (with_reducible repeat (first | refine Zg ?_ _ | refine Zi ?_ | refine Zh ?_ _)); exact BK1132.out) hb); replace HB := Yt.mk (Zm (Qa0) hb); (try clear hb); (try clear hk)) | ((with_reducible refine Zr (f := 59) rfl ?_); refine Yg (some 21) rfl rfl Try.func59 Qa7 rfl #[.string (⟨#[43, 48, 54, 47, 52]⟩ : ByteArray)] rfl Qa2 ?_; (with_reducible refine (ratio_Read.calls k (⟨#[43, 48, 54, 47, 52]⟩ : ByteArray) t1135 t1136 t1139 t1142 _ A3.out).mono ?_); rintro e w30 ⟨v1137, v1140, rfl, ho0, ho1, hb⟩; refine ⟨_, rfl, ?_⟩; have HO1138 := Yt.mk (Kd.Yb (Kd.Ya (Kd.Ya (Kd.Ya (Kd.Ya ho0 (Kd.R_lt (Qr1 HO1120.out))) (Kd.R_lt (Qr1 HO1123.out))) (Kd.R_lt (Qr1 HO1127.out))) (Kd.R_lt (Qr1 HO1130.out))) (Zk (Qa0))); have HO1141 := Yt.mk (Kd.Yb (Kd.Ya (Kd.Ya (Kd.Ya (Kd.Ya ho1 (Kd.R_lt (Qr1 HO1120.out))) (Kd.R_lt (Qr1 HO1123.out))) (Kd.R_lt (Qr1 HO1127.out))) (Kd.R_lt (Qr1 HO1130.out))) (Zk (Qa0))); replace HO1120 := Yt.mk (Kd.Zv (Kd.Yl (Kd.Yl (Kd.R_old (Qr1 HO1120.out) hb) (Kd.Zw ho0)) (Kd.Zw ho1)) (fun _ h_ => h_.1)); replace HO1123 := Yt.mk (Kd.Zv (Kd.Yl (Kd.Yl (Kd.R_old (Qr1 HO1123.out) hb) (Kd.Zw ho0)) (Kd.Zw ho1)) (fun _ h_ => h_.1)); replace HO1127 := Yt.mk (Kd.Zv (Kd.Yl (Kd.Yl (Kd.R_old (Qr1 HO1127.out) hb) (Kd.Zw ho0)) (Kd.Zw ho1)) (fun _ h_ => h_.1)); replace HO1130 := Yt.mk (Kd.Zv (Kd.Yl (Kd.Yl (Kd.R_old (Qr1 HO1130.out) hb) (Kd.Zw ho0)) (Kd.Zw ho1)) (fun _ h_ => h_.1)); replace BK1132 := Yt.mk (Zq (g := gb1132) (o := .cells #[.bool t1124, .slice Ao27 t1125.length co27, .slice Ao28 t1128.length co28] 50 (0, 0)) (Qr12 BK1132.out) hb); replace HB := Yt.mk (Zm (Qa0) hb); (try clear hb); (try clear ho0); (try clear ho1)) | ((with_reducible refine Yk (N := 5) rfl ?_); refine Yo ?hg (N := 5) ?hd (cs := #[.bool false, .slice none 0 0, .slice none 0 0]) (t := 50) ?hr ?_; (case hd => rfl); (case hg => rfl); (case hr => exact Qa8); intro gb1143 hg w31 hbox hb; replace HO1120 := Yt.mk (Kd.Yd (Qr1 HO1120.out) hb); replace HO1123 := Yt.mk (Kd.Yd (Qr1 HO1123.out) hb); replace HO1127 := Yt.mk (Kd.Yd (Qr1 HO1127.out) hb); replace HO1130 := Yt.mk (Kd.Yd (Qr1 HO1130.out) hb); replace HO1138 := Yt.mk (Kd.Yd (Qr1 HO1138.out) hb); replace HO1141 := Yt.mk (Kd.Yd (Qr1 HO1141.out) hb); have BK1143 := Yt.mk (hbox); have GW1143 := Yt.mk ((by rw [hg]; exact (Zk (Qa0)) : w.heap.size ≤ gb1143)); have GE1143 := Yt.mk ((by rw [hg]; exact (Zk (Qa0)) : w.heap.size ≤ gb1143)); replace HB := Yt.mk (Zm (Qa0) hb); have NB1132_1143 := Yt.mk ((by rw [hg]; exact Nat.ne_of_lt (blk_lt (g := gb1132) (o := .cells #[.bool t1124, .slice Ao27 t1125.length co27, .slice Ao28 t1128.length co28] 50 (0, 0)) (Qr12 BK1132.out)) : gb1132 ≠ gb1143)); have NB1143_1132 := Yt.mk ((by rw [hg]; exact Nat.ne_of_gt (blk_lt (g := gb1132) (o := .cells #[.bool t1124, .slice Ao27 t1125.length co27, .slice Ao28 t1128.length co28] 50 (0, 0)) (Qr12 BK1132.out)) : gb1143 ≠ gb1132)); replace BK1132 := Yt.mk (Zq (g := gb1132) (o := .cells #[.bool t1124, .slice Ao27 t1125.length co27, .slice Ao28 t1128.length co28] 50 (0, 0)) (Qr12 BK1132.out) hb); clear hb hbox hg; have hnb32 := NB1143_1132.out; have hnc32 := NB1132_1143.out; have hcz33_0 : w31.cell? ⟨gb1143, 0, none⟩ = some (.bool false) := (Zl BK1143.out 0).trans rfl; have hcz33_1 : w31.cell? ⟨gb1143, 1, none⟩ = some (.slice none 0 0) := (Zl BK1143.out 1).trans rfl; have hcz33_2 : w31.cell? ⟨gb1143, 2, none⟩ = some (.slice none 0 0) := (Zl BK1143.out 2).trans rfl; have hfz33_0 := Zn BK1143.out 0; have hfz33_1 := Zn BK1143.out 1; have hfz33_2 := Zn BK1143.out 2; obtain ⟨Ao34, co34, eo34⟩ := Kd.Zx HO1138.out; subst eo34; obtain ⟨Ao35, co35, eo35⟩ := Kd.Zx HO1141.out; subst eo35) | ((with_reducible refine gate_store (t := 50) (p := 5) rfl ?_); refine store_event (t := 50) (p := 5) (v := ?vo_w36) (w1 := (((w31.setCell ⟨gb1143, 0, none⟩ (.bool t1135)).setCell ⟨gb1143, 1, none⟩ (.slice Ao34 t1136.length co34)).setCell ⟨gb1143, 2, none⟩ (.slice Ao35 t1139.length co35))) ?hg ?ho ?hn ?hr ?_; (case ho => rfl); (case hg => rfl); (case hn => rfl); (case hr => exact Qa8); intro w36 hw; have n0_ : Yt (Kd.R (Kd.int .u32) 47 w36 w.heap.size (fun k_ => some k_ ≠ (.slice Ao23 y1121.length co23 : Value).ownBlock ∧ some k_ ≠ (.slice Ao27 t1125.length co27 : Value).ownBlock ∧ some k_ ≠ (.slice Ao28 t1128.length co28 : Value).ownBlock ∧ some k_ ≠ (.slice Ao34 t1136.length co34 : Value).ownBlock ∧ some k_ ≠ (.slice Ao35 t1139.length co35 : Value).ownBlock) (.slice Ao22 y1118.length co22) y1118) := ⟨(by rw [hw]; exact (by (with_reducible repeat (first | apply Kd.Zf | apply Kd.Ze | apply Kd.Zj)); exact Kd.Zv (Kd.Yh (p := ⟨gb1143, 2, none⟩) (Kd.Yh (p := ⟨gb1143, 1, none⟩) (Kd.Yh (p := ⟨gb1143, 0, none⟩) (Kd.Yq HO1120.out BK1143.out (by decide)) (fun _ hk => hk.2) (.bool t1135)) (fun _ hk => hk.2) (.slice Ao34 t1136.length co34)) (fun _ hk => hk.2) (.slice Ao35 t1139.length co35)) (fun _ hk => ⟨hk.1.1.1.1.1.2, ⟨hk.1.1.1.1.2, ⟨hk.1.1.1.2, ⟨hk.1.1.2, hk.1.2⟩⟩⟩⟩)))⟩; have n1_ : Yt (Kd.R (Kd.int .u32) 47 w36 w.heap.size (fun k_ => some k_ ≠ (.slice Ao22 y1118.length co22 : Value).ownBlock ∧ some k_ ≠ (.slice Ao27 t1125.length co27 : Value).ownBlock ∧ some k_ ≠ (.slice Ao28 t1128.length co28 : Value).ownBlock ∧ some k_ ≠ (.slice Ao34 t1136.length co34 : Value).ownBlock ∧ some k_ ≠ (.slice Ao35 t1139.length co35 : Value).ownBlock) (.slice Ao23 y1121.length co23) y1121) := ⟨(by rw [hw]; exact (by (with_reducible repeat (first | apply Kd.Zf | apply Kd.Ze | apply Kd.Zj)); exact Kd.Zv (Kd.Yh (p := ⟨gb1143, 2, none⟩) (Kd.Yh (p := ⟨gb1143, 1, none⟩) (Kd.Yh (p := ⟨gb1143, 0, none⟩) (Kd.Yq HO1123.out BK1143.out (by decide)) (fun _ hk => hk.2) (.bool t1135)) (fun _ hk => hk.2) (.slice Ao34 t1136.length co34)) (fun _ hk => hk.2) (.slice Ao35 t1139.length co35)) (fun _ hk => ⟨hk.1.1.1.1.1.2, ⟨hk.1.1.1.1.2, ⟨hk.1.1.1.2, ⟨hk.1.1.2, hk.1.2⟩⟩⟩⟩)))⟩; have n2_ : Yt (Kd.R (Kd.int .u32) 47 w36 w.heap.size (fun k_ => some k_ ≠ (.slice Ao22 y1118.length co22 : Value).ownBlock ∧ some k_ ≠ (.slice Ao23 y1121.length co23 : Value).ownBlock ∧ some k_ ≠ (.slice Ao28 t1128.length co28 : Value).ownBlock ∧ some k_ ≠ (.slice Ao34 t1136.length co34 : Value).ownBlock ∧ some k_ ≠ (.slice Ao35 t1139.length co35 : Value).ownBlock) (.slice Ao27 t1125.length co27) t1125) := ⟨(by rw [hw]; exact (by (with_reducible repeat (first | apply Kd.Zf | apply Kd.Ze | apply Kd.Zj)); exact Kd.Zv (Kd.Yh (p := ⟨gb1143, 2, none⟩) (Kd.Yh (p := ⟨gb1143, 1, none⟩) (Kd.Yh (p := ⟨gb1143, 0, none⟩) (Kd.Yq HO1127.out BK1143.out (by decide)) (fun _ hk => hk.2) (.bool t1135)) (fun _ hk => hk.2) (.slice Ao34 t1136.length co34)) (fun _ hk => hk.2) (.slice Ao35 t1139.length co35)) (fun _ hk => ⟨hk.1.1.1.1.2, ⟨hk.1.1.1.2, ⟨hk.1.1.1.1.1, ⟨hk.1.1.2, hk.1.2⟩⟩⟩⟩)))⟩; have n3_ : Yt (Kd.R (Kd.int .u32) 47 w36 w.heap.size (fun k_ => some k_ ≠ (.slice Ao22 y1118.length co22 : Value).ownBlock ∧ some k_ ≠ (.slice Ao23 y1121.length co23 : Value).ownBlock ∧ some k_ ≠ (.slice Ao27 t1125.length co27 : Value).ownBlock ∧ some k_ ≠ (.slice Ao34 t1136.length co34 : Value).ownBlock ∧ some k_ ≠ (.slice Ao35 t1139.length co35 : Value).ownBlock) (.slice Ao28 t1128.length co28) t1128) := ⟨(by rw [hw]; exact (by (with_reducible repeat (first | apply Kd.Zf | apply Kd.Ze | apply Kd.Zj)); exact Kd.Zv (Kd.Yh (p := ⟨gb1143, 2, none⟩) (Kd.Yh (p := ⟨gb1143, 1, none⟩) (Kd.Yh (p := ⟨gb1143, 0, none⟩) (Kd.Yq HO1130.out BK1143.out (by decide)) (fun _ hk => hk.2) (.bool t1135)) (fun _ hk => hk.2) (.slice Ao34 t1136.length co34)) (fun _ hk => hk.2) (.slice Ao35 t1139.length co35)) (fun _ hk => ⟨hk.1.1.1.1.2, ⟨hk.1.1.1.2, ⟨hk.1.1.1.1.1, ⟨hk.1.1.2, hk.1.2⟩⟩⟩⟩)))⟩; have n4_ : Yt (Kd.R (Kd.int .u32) 47 w36 w.heap.size (fun k_ => some k_ ≠ (.slice Ao22 y1118.length co22 : Value).ownBlock ∧ some k_ ≠ (.slice Ao23 y1121.length co23 : Value).ownBlock ∧ some k_ ≠ (.slice Ao27 t1125.length co27 : Value).ownBlock ∧ some k_ ≠ (.slice Ao28 t1128.length co28 : Value).ownBlock ∧ some k_ ≠ (.slice Ao35 t1139.length co35 : Value).ownBlock) (.slice Ao34 t1136.length co34) t1136) := ⟨(by rw [hw]; exact (by (with_reducible repeat (first | apply Kd.Zf | apply Kd.Ze | apply Kd.Zj)); exact Kd.Zv (Kd.Yh (p := ⟨gb1143, 2, none⟩) (Kd.Yh (p := ⟨gb1143, 1, none⟩) (Kd.Yh (p := ⟨gb1143, 0, none⟩) (Kd.Yq HO1138.out BK1143.out (by decide)) (fun _ hk => hk.2) (.bool t1135)) (fun _ hk => hk.2) (.slice Ao34 t1136.length co34)) (fun _ hk => hk.2) (.slice Ao35 t1139.length co35)) (fun _ hk => ⟨hk.1.1.1.1.2, ⟨hk.1.1.1.2, ⟨hk.1.1.2, ⟨hk.1.2, hk.1.1.1.1.1⟩⟩⟩⟩)))⟩; have n5_ : Yt (Kd.R (Kd.int .u32) 47 w36 w.heap.size (fun k_ => some k_ ≠ (.slice Ao22 y1118.length co22 : Value).ownBlock ∧ some k_ ≠ (.slice Ao23 y1121.length co23 : Value).ownBlock ∧ some k_ ≠ (.slice Ao27 t1125.length co27 : Value).ownBlock ∧ some k_ ≠ (.slice Ao28 t1128.length co28 : Value).ownBlock ∧ some k_ ≠ (.slice Ao34 t1136.length co34 : Value).ownBlock) (.slice Ao35 t1139.length co35) t1139) := ⟨(by rw [hw]; exact (by (with_reducible repeat (first | apply Kd.Zf | apply Kd.Ze | apply Kd.Zj)); exact Kd.Zv (Kd.Yh (p := ⟨gb1143, 2, none⟩) (Kd.Yh (p := ⟨gb1143, 1, none⟩) (Kd.Yh (p := ⟨gb1143, 0, none⟩) (Kd.Yq HO1141.out BK1143.out (by decide)) (fun _ hk => hk.2) (.bool t1135)) (fun _ hk => hk.2) (.slice Ao34 t1136.length co34)) (fun _ hk => hk.2) (.slice Ao35 t1139.length co35)) (fun _ hk => ⟨hk.1.1.1.1.2, ⟨hk.1.1.1.2, ⟨hk.1.1.2, ⟨hk.1.2, hk.1.1.1.1.1⟩⟩⟩⟩)))⟩; have n6_ : Yt (w36.heap[gb1132]? = some (.cells #[.bool t1124, .slice Ao27 t1125.length co27, .slice Ao28 t1128.length co28] 50 (0, 0))) := ⟨(by rw [hw]; exact (by (with_reducible repeat (first | refine Zg ?_ _ | refine Zi ?_ | refine Zh ?_ _)); refine blk_far ?_ NB1132_1143.out _; (with_reducible repeat (first | refine Zg ?_ _ | refine Zi ?_ | refine Zh ?_ _)); refine blk_far ?_ NB1132_1143.out _; (with_reducible repeat (first | refine Zg ?_ _ | refine Zi ?_ | refine Zh ?_ _)); refine blk_far ?_ NB1132_1143.out _; (with_reducible repeat (first | refine Zg ?_ _ | refine Zi ?_ | refine Zh ?_ _)); exact BK1132.out))⟩; have n7_ : Yt (w36.heap[gb1143]? = some (.cells #[.bool t1135, .slice Ao34 t1136.length co34, .slice Ao35 t1139.length co35] 50 (0, 0))) := ⟨(by rw [hw]; exact (by (with_reducible repeat (first | refine Zg ?_ _ | refine Zi ?_ | refine Zh ?_ _)); refine Ym (cs := #[.bool t1135, .slice Ao34 t1136.length co34, .slice none 0 0]) ?_ 2 _ rfl; (with_reducible repeat (first | refine Zg ?_ _ | refine Zi ?_ | refine Zh ?_ _)); refine Ym (cs := #[.bool t1135, .slice none 0 0, .slice none 0 0]) ?_ 1 _ rfl; (with_reducible repeat (first | refine Zg ?_ _ | refine Zi ?_ | refine Zh ?_ _)); refine Ym (cs := #[.bool false, .slice none 0 0, .slice none 0 0]) ?_ 0 _ rfl; (with_reducible repeat (first | refine Zg ?_ _ | refine Zi ?_ | refine Zh ?_ _)); exact BK1143.out))⟩; have n8_ : Yt (Below w.heap.size w w36) := ⟨(by rw [hw]; exact (Qa0))⟩; clear hw; clear HO1120; clear HO1123; clear HO1127; clear HO1130; clear HO1138; clear HO1141; clear BK1132; clear BK1143; clear HB; have HO1120 := n0_; have HO1123 := n1_; have HO1127 := n2_; have HO1130 := n3_; have HO1138 := n4_; have HO1141 := n5_; have BK1132 := n6_; have BK1143 := n7_; have HB := n8_; clear n0_ n1_ n2_ n3_ n4_ n5_ n6_ n7_ n8_; have hcz37_0 : w36.cell? ⟨gb1143, 0, none⟩ = some (.bool t1135) := (Zl BK1143.out 0).trans rfl; have hcz37_1 : w36.cell? ⟨gb1143, 1, none⟩ = some (.slice Ao34 t1136.length co34) := (Zl BK1143.out 1).trans rfl; have hcz37_2 : w36.cell? ⟨gb1143, 2, none⟩ = some (.slice Ao35 t1139.length co35) := (Zl BK1143.out 2).trans rfl; have hfz37_0 := Zn BK1143.out 0; have hfz37_1 := Zn BK1143.out 1; have hfz37_2 := Zn BK1143.out 2; have hcz38_0 : w36.cell? ⟨gb1132, 0, none⟩ = some (.bool t1124) := (Zl BK1132.out 0).trans rfl; have hcz38_1 : w36.cell? ⟨gb1132, 1, none⟩ = some (.slice Ao27 t1125.length co27) := (Zl BK1132.out 1).trans rfl; have hcz38_2 : w36.cell? ⟨gb1132, 2, none⟩ = some (.slice Ao28 t1128.length co28) := (Zl BK1132.out 2).trans rfl; have hfz38_0 := Zn BK1132.out 0; have hfz38_1 := Zn BK1132.out 1; have hfz38_2 := Zn BK1132.out 2) | ((with_reducible refine Zr (f := 70) rfl ?_); refine Yg (some 27) rfl rfl Try.func70 Qa7 rfl #[.agg #[.bool t1135, .slice Ao34 t1136.length co34, .slice Ao35 t1139.length co35], .agg #[.bool t1124, .slice Ao27 t1125.length co27, .slice Ao28 t1128.length co28]] rfl Qa2 ?_; (with_reducible refine (ratio_Add.calls k t1135 (fun k_ => some k_ = (.slice Ao34 t1136.length co34 : Value).ownBlock) _ _ t1136 (fun k_ => some k_ = (.slice Ao35 t1139.length co35 : Value).ownBlock) _ _ t1139 t1124 (fun k_ => some k_ = (.slice Ao27 t1125.length co27 : Value).ownBlock) _ _ t1125 (fun k_ => some k_ = (.slice Ao28 t1128.length co28 : Value).ownBlock) _ _ t1128 t1144 t1145 t1148 t1151 _ ?side1 ?side2 ?side3 ?side4 A4.out).mono ?_); (case side1 => exact Kd.R_V (Kd.R_tight rfl (Kd.Yq (Kd.Yq (HO1138.out) BK1132.out (by decide)) BK1143.out (by decide)))); (case side2 => exact Kd.R_V (Kd.R_tight rfl (Kd.Yq (Kd.Yq (HO1141.out) BK1132.out (by decide)) BK1143.out (by decide)))); (case side3 => exact Kd.R_V (Kd.R_tight rfl (Kd.Yq (Kd.Yq (HO1127.out) BK1132.out (by decide)) BK1143.out (by decide)))); (case side4 => exact Kd.R_V (Kd.R_tight rfl (Kd.Yq (Kd.Yq (HO1130.out) BK1132.out (by decide)) BK1143.out (by decide)))); rintro e w39 ⟨v1146, v1149, rfl, ho0, ho1, hb⟩; refine ⟨_, rfl, ?_⟩; have HO1147 := Yt.mk (Kd.Yb (Kd.Ya (Kd.Ya (Kd.Ya (Kd.Ya (Kd.Ya (Kd.Ya (Kd.Zv (ok' := fun k_ => some k_ ≠ (v1149 : Value).ownBlock) ho0 (fun _ hk_ => hk_.2)) (Kd.R_lt (Qr1 HO1120.out))) (Kd.R_lt (Qr1 HO1123.out))) (Kd.R_lt (Qr1 HO1127.out))) (Kd.R_lt (Qr1 HO1130.out))) (Kd.R_lt (Qr1 HO1138.out))) (Kd.R_lt (Qr1 HO1141.out))) (Zk (Qa0))); have HO1150 := Yt.mk (Kd.Yb (Kd.Ya (Kd.Ya (Kd.Ya (Kd.Ya (Kd.Ya (Kd.Ya (Kd.Zv (ok' := fun k_ => some k_ ≠ (v1146 : Value).ownBlock) ho1 (fun _ hk_ => hk_.2)) (Kd.R_lt (Qr1 HO1120.out))) (Kd.R_lt (Qr1 HO1123.out))) (Kd.R_lt (Qr1 HO1127.out))) (Kd.R_lt (Qr1 HO1130.out))) (Kd.R_lt (Qr1 HO1138.out))) (Kd.R_lt (Qr1 HO1141.out))) (Zk (Qa0))); replace HO1120 := Yt.mk (Kd.Zv (Kd.Yl (Kd.Yl (Kd.R_old (Qr1 HO1120.out) hb) (Kd.Zw ho0)) (Kd.Zw ho1)) (fun _ h_ => h_.1)); replace HO1123 := Yt.mk (Kd.Zv (Kd.Yl (Kd.Yl (Kd.R_old (Qr1 HO1123.out) hb) (Kd.Zw ho0)) (Kd.Zw ho1)) (fun _ h_ => h_.1)); replace HO1127 := Yt.mk (Kd.Zv (Kd.Yl (Kd.Yl (Kd.R_old (Qr1 HO1127.out) hb) (Kd.Zw ho0)) (Kd.Zw ho1)) (fun _ h_ => h_.1)); replace HO1130 := Yt.mk (Kd.Zv (Kd.Yl (Kd.Yl (Kd.R_old (Qr1 HO1130.out) hb) (Kd.Zw ho0)) (Kd.Zw ho1)) (fun _ h_ => h_.1)); replace HO1138 := Yt.mk (Kd.Zv (Kd.Yl (Kd.Yl (Kd.R_old (Qr1 HO1138.out) hb) (Kd.Zw ho0)) (Kd.Zw ho1)) (fun _ h_ => h_.1)); replace HO1141 := Yt.mk (Kd.Zv (Kd.Yl (Kd.Yl (Kd.R_old (Qr1 HO1141.out) hb) (Kd.Zw ho0)) (Kd.Zw ho1)) (fun _ h_ => h_.1)); replace BK1132 := Yt.mk (Zq (g := gb1132) (o := .cells #[.bool t1124, .slice Ao27 t1125.length co27, .slice Ao28 t1128.length co28] 50 (0, 0)) (Qr12 BK1132.out) hb); replace BK1143 := Yt.mk (Zq (g := gb1143) (o := .cells #[.bool t1135, .slice Ao34 t1136.length co34, .slice Ao35 t1139.length co35] 50 (0, 0)) (Qr12 BK1143.out) hb); replace HB := Yt.mk (Zm (Qa0) hb); (try clear hb); (try clear ho0); (try clear ho1)) | ((with_reducible refine Yk (N := 7) rfl ?_); refine Yo ?hg (N := 7) ?hd (cs := #[.bool false, .slice none 0 0, .slice none 0 0]) (t := 50) ?hr ?_; (case hd => rfl); (case hg => rfl); (case hr => exact Qa8); intro gb1152 hg w40 hbox hb; replace HO1120 := Yt.mk (Kd.Yd (Qr1 HO1120.out) hb); replace HO1123 := Yt.mk (Kd.Yd (Qr1 HO1123.out) hb); replace HO1127 := Yt.mk (Kd.Yd (Qr1 HO1127.out) hb); replace HO1130 := Yt.mk (Kd.Yd (Qr1 HO1130.out) hb); replace HO1138 := Yt.mk (Kd.Yd (Qr1 HO1138.out) hb); replace HO1141 := Yt.mk (Kd.Yd (Qr1 HO1141.out) hb); replace HO1147 := Yt.mk (Kd.Yd (Qr1 HO1147.out) hb); replace HO1150 := Yt.mk (Kd.Yd (Qr1 HO1150.out) hb); have BK1152 := Yt.mk (hbox); have GW1152 := Yt.mk ((by rw [hg]; exact (Zk (Qa0)) : w.heap.size ≤ gb1152)); have GE1152 := Yt.mk ((by rw [hg]; exact (Zk (Qa0)) : w.heap.size ≤ gb1152)); replace HB := Yt.mk (Zm (Qa0) hb); have NB1132_1152 := Yt.mk ((by rw [hg]; exact Nat.ne_of_lt (blk_lt (g := gb1132) (o := .cells #[.bool t1124, .slice Ao27 t1125.length co27, .slice Ao28 t1128.length co28] 50 (0, 0)) (Qr12 BK1132.out)) : gb1132 ≠ gb1152)); have NB1152_1132 := Yt.mk ((by rw [hg]; exact Nat.ne_of_gt (blk_lt (g := gb1132) (o := .cells #[.bool t1124, .slice Ao27 t1125.length co27, .slice Ao28 t1128.length co28] 50 (0, 0)) (Qr12 BK1132.out)) : gb1152 ≠ gb1132)); replace BK1132 := Yt.mk (Zq (g := gb1132) (o := .cells #[.bool t1124, .slice Ao27 t1125.length co27, .slice Ao28 t1128.length co28] 50 (0, 0)) (Qr12 BK1132.out) hb); have NB1143_1152 := Yt.mk ((by rw [hg]; exact Nat.ne_of_lt (blk_lt (g := gb1143) (o := .cells #[.bool t1135, .slice Ao34 t1136.length co34, .slice Ao35 t1139.length co35] 50 (0, 0)) (Qr12 BK1143.out)) : gb1143 ≠ gb1152)); have NB1152_1143 := Yt.mk ((by rw [hg]; exact Nat.ne_of_gt (blk_lt (g := gb1143) (o := .cells #[.bool t1135, .slice Ao34 t1136.length co34, .slice Ao35 t1139.length co35] 50 (0, 0)) (Qr12 BK1143.out)) : gb1152 ≠ gb1143)); replace BK1143 := Yt.mk (Zq (g := gb1143) (o := .cells #[.bool t1135, .slice Ao34 t1136.length co34, .slice Ao35 t1139.length co35] 50 (0, 0)) (Qr12 BK1143.out) hb); clear hb hbox hg; have hnb41 := NB1152_1132.out; have hnc41 := NB1132_1152.out; have hnb42 := NB1152_1143.out; have hnc42 := NB1143_1152.out; have hcz43_0 : w40.cell? ⟨gb1152, 0, none⟩ = some (.bool false) := (Zl BK1152.out 0).trans rfl; have hcz43_1 : w40.cell? ⟨gb1152, 1, none⟩ = some (.slice none 0 0) := (Zl BK1152.out 1).trans rfl; have hcz43_2 : w40.cell? ⟨gb1152, 2, none⟩ = some (.slice none 0 0) := (Zl BK1152.out 2).trans rfl; have hfz43_0 := Zn BK1152.out 0; have hfz43_1 := Zn BK1152.out 1; have hfz43_2 := Zn BK1152.out 2; obtain ⟨Ao44, co44, eo44⟩ := Kd.Zx HO1147.out; subst eo44; obtain ⟨Ao45, co45, eo45⟩ := Kd.Zx HO1150.out; subst eo45))
 have n0_ : Yt (Kd.R (Kd.int .u32) 47 (((w40.setCell ⟨gb1152, 0, none⟩ (.bool t1144)).setCell ⟨gb1152, 1, none⟩ (.slice Ao44 t1145.length co44)).setCell ⟨gb1152, 2, none⟩ (.slice Ao45 t1148.length co45)) w.heap.size (fun k_ => some k_ ≠ (.slice Ao23 y1121.length co23 : Value).ownBlock ∧ some k_ ≠ (.slice Ao27 t1125.length co27 : Value).ownBlock ∧ some k_ ≠ (.slice Ao28 t1128.length co28 : Value).ownBlock ∧ some k_ ≠ (.slice Ao34 t1136.length co34 : Value).ownBlock ∧ some k_ ≠ (.slice Ao35 t1139.length co35 : Value).ownBlock ∧ some k_ ≠ (.slice Ao44 t1145.length co44 : Value).ownBlock ∧ some k_ ≠ (.slice Ao45 t1148.length co45 : Value).ownBlock) (.slice Ao22 y1118.length co22) y1118) := ⟨by (with_reducible repeat (first | apply Kd.Zf | apply Kd.Ze | apply Kd.Zj)); exact Kd.Zv (Kd.Yh (p := ⟨gb1152, 2, none⟩) (Kd.Yh (p := ⟨gb1152, 1, none⟩) (Kd.Yh (p := ⟨gb1152, 0, none⟩) (Kd.Yq HO1120.out BK1152.out (by decide)) (fun _ hk => hk.2) (.bool t1144)) (fun _ hk => hk.2) (.slice Ao44 t1145.length co44)) (fun _ hk => hk.2) (.slice Ao45 t1148.length co45)) (fun _ hk => ⟨hk.1.1.1.1, ⟨hk.1.1.1.2.1, ⟨hk.1.1.1.2.2.1, ⟨hk.1.1.1.2.2.2.1, ⟨hk.1.1.1.2.2.2.2, ⟨hk.1.1.2, hk.1.2⟩⟩⟩⟩⟩⟩)⟩
 have n1_ : Yt (Kd.R (Kd.int .u32) 47 (((w40.setCell ⟨gb1152, 0, none⟩ (.bool t1144)).setCell ⟨gb1152, 1, none⟩ (.slice Ao44 t1145.length co44)).setCell ⟨gb1152, 2, none⟩ (.slice Ao45 t1148.length co45)) w.heap.size (fun k_ => some k_ ≠ (.slice Ao22 y1118.length co22 : Value).ownBlock ∧ some k_ ≠ (.slice Ao27 t1125.length co27 : Value).ownBlock ∧ some k_ ≠ (.slice Ao28 t1128.length co28 : Value).ownBlock ∧ some k_ ≠ (.slice Ao34 t1136.length co34 : Value).ownBlock ∧ some k_ ≠ (.slice Ao35 t1139.length co35 : Value).ownBlock ∧ some k_ ≠ (.slice Ao44 t1145.length co44 : Value).ownBlock ∧ some k_ ≠ (.slice Ao45 t1148.length co45 : Value).ownBlock) (.slice Ao23 y1121.length co23) y1121) := ⟨by (with_reducible repeat (first | apply Kd.Zf | apply Kd.Ze | apply Kd.Zj)); exact Kd.Zv (Kd.Yh (p := ⟨gb1152, 2, none⟩) (Kd.Yh (p := ⟨gb1152, 1, none⟩) (Kd.Yh (p := ⟨gb1152, 0, none⟩) (Kd.Yq HO1123.out BK1152.out (by decide)) (fun _ hk => hk.2) (.bool t1144)) (fun _ hk => hk.2) (.slice Ao44 t1145.length co44)) (fun _ hk => hk.2) (.slice Ao45 t1148.length co45)) (fun _ hk => ⟨hk.1.1.1.1, ⟨hk.1.1.1.2.1, ⟨hk.1.1.1.2.2.1, ⟨hk.1.1.1.2.2.2.1, ⟨hk.1.1.1.2.2.2.2, ⟨hk.1.1.2, hk.1.2⟩⟩⟩⟩⟩⟩)⟩
 have n2_ : Yt (Kd.R (Kd.int .u32) 47 (((w40.setCell ⟨gb1152, 0, none⟩ (.bool t1144)).setCell ⟨gb1152, 1, none⟩ (.slice Ao44 t1145.length co44)).setCell ⟨gb1152, 2, none⟩ (.slice Ao45 t1148.length co45)) w.heap.size (fun k_ => some k_ ≠ (.slice Ao22 y1118.length co22 : Value).ownBlock ∧ some k_ ≠ (.slice Ao23 y1121.length co23 : Value).ownBlock ∧ some k_ ≠ (.slice Ao28 t1128.length co28 : Value).ownBlock ∧ some k_ ≠ (.slice Ao34 t1136.length co34 : Value).ownBlock ∧ some k_ ≠ (.slice Ao35 t1139.length co35 : Value).ownBlock ∧ some k_ ≠ (.slice Ao44 t1145.length co44 : Value).ownBlock ∧ some k_ ≠ (.slice Ao45 t1148.length co45 : Value).ownBlock) (.slice Ao27 t1125.length co27) t1125) := ⟨by (with_reducible repeat (first | apply Kd.Zf | apply Kd.Ze | apply Kd.Zj)); exact Kd.Zv (Kd.Yh (p := ⟨gb1152, 2, none⟩) (Kd.Yh (p := ⟨gb1152, 1, none⟩) (Kd.Yh (p := ⟨gb1152, 0, none⟩) (Kd.Yq HO1127.out BK1152.out (by decide)) (fun _ hk => hk.2) (.bool t1144)) (fun _ hk => hk.2) (.slice Ao44 t1145.length co44)) (fun _ hk => hk.2) (.slice Ao45 t1148.length co45)) (fun _ hk => ⟨hk.1.1.1.1, ⟨hk.1.1.1.2.1, ⟨hk.1.1.1.2.2.1, ⟨hk.1.1.1.2.2.2.1, ⟨hk.1.1.1.2.2.2.2, ⟨hk.1.1.2, hk.1.2⟩⟩⟩⟩⟩⟩)⟩
 have n3_ : Yt (Kd.R (Kd.int .u32) 47 (((w40.setCell ⟨gb1152, 0, none⟩ (.bool t1144)).setCell ⟨gb1152, 1, none⟩ (.slice Ao44 t1145.length co44)).setCell ⟨gb1152, 2, none⟩ (.slice Ao45 t1148.length co45)) w.heap.size (fun k_ => some k_ ≠ (.slice Ao22 y1118.length co22 : Value).ownBlock ∧ some k_ ≠ (.slice Ao23 y1121.length co23 : Value).ownBlock ∧ some k_ ≠ (.slice Ao27 t1125.length co27 : Value).ownBlock ∧ some k_ ≠ (.slice Ao34 t1136.length co34 : Value).ownBlock ∧ some k_ ≠ (.slice Ao35 t1139.length co35 : Value).ownBlock ∧ some k_ ≠ (.slice Ao44 t1145.length co44 : Value).ownBlock ∧ some k_ ≠ (.slice Ao45 t1148.length co45 : Value).ownBlock) (.slice Ao28 t1128.length co28) t1128) := ⟨by (with_reducible repeat (first | apply Kd.Zf | apply Kd.Ze | apply Kd.Zj)); exact Kd.Zv (Kd.Yh (p := ⟨gb1152, 2, none⟩) (Kd.Yh (p := ⟨gb1152, 1, none⟩) (Kd.Yh (p := ⟨gb1152, 0, none⟩) (Kd.Yq HO1130.out BK1152.out (by decide)) (fun _ hk => hk.2) (.bool t1144)) (fun _ hk => hk.2) (.slice Ao44 t1145.length co44)) (fun _ hk => hk.2) (.slice Ao45 t1148.length co45)) (fun _ hk => ⟨hk.1.1.1.1, ⟨hk.1.1.1.2.1, ⟨hk.1.1.1.2.2.1, ⟨hk.1.1.1.2.2.2.1, ⟨hk.1.1.1.2.2.2.2, ⟨hk.1.1.2, hk.1.2⟩⟩⟩⟩⟩⟩)⟩
 have n4_ : Yt (Kd.R (Kd.int .u32) 47 (((w40.setCell ⟨gb1152, 0, none⟩ (.bool t1144)).setCell ⟨gb1152, 1, none⟩ (.slice Ao44 t1145.length co44)).setCell ⟨gb1152, 2, none⟩ (.slice Ao45 t1148.length co45)) w.heap.size (fun k_ => some k_ ≠ (.slice Ao22 y1118.length co22 : Value).ownBlock ∧ some k_ ≠ (.slice Ao23 y1121.length co23 : Value).ownBlock ∧ some k_ ≠ (.slice Ao27 t1125.length co27 : Value).ownBlock ∧ some k_ ≠ (.slice Ao28 t1128.length co28 : Value).ownBlock ∧ some k_ ≠ (.slice Ao35 t1139.length co35 : Value).ownBlock ∧ some k_ ≠ (.slice Ao44 t1145.length co44 : Value).ownBlock ∧ some k_ ≠ (.slice Ao45 t1148.length co45 : Value).ownBlock) (.slice Ao34 t1136.length co34) t1136) := ⟨by (with_reducible repeat (first | apply Kd.Zf | apply Kd.Ze | apply Kd.Zj)); exact Kd.Zv (Kd.Yh (p := ⟨gb1152, 2, none⟩) (Kd.Yh (p := ⟨gb1152, 1, none⟩) (Kd.Yh (p := ⟨gb1152, 0, none⟩) (Kd.Yq HO1138.out BK1152.out (by decide)) (fun _ hk => hk.2) (.bool t1144)) (fun _ hk => hk.2) (.slice Ao44 t1145.length co44)) (fun _ hk => hk.2) (.slice Ao45 t1148.length co45)) (fun _ hk => ⟨hk.1.1.1.1, ⟨hk.1.1.1.2.1, ⟨hk.1.1.1.2.2.1, ⟨hk.1.1.1.2.2.2.1, ⟨hk.1.1.1.2.2.2.2, ⟨hk.1.1.2, hk.1.2⟩⟩⟩⟩⟩⟩)⟩
 have n5_ : Yt (Kd.R (Kd.int .u32) 47 (((w40.setCell ⟨gb1152, 0, none⟩ (.bool t1144)).setCell ⟨gb1152, 1, none⟩ (.slice Ao44 t1145.length co44)).setCell ⟨gb1152, 2, none⟩ (.slice Ao45 t1148.length co45)) w.heap.size (fun k_ => some k_ ≠ (.slice Ao22 y1118.length co22 : Value).ownBlock ∧ some k_ ≠ (.slice Ao23 y1121.length co23 : Value).ownBlock ∧ some k_ ≠ (.slice Ao27 t1125.length co27 : Value).ownBlock ∧ some k_ ≠ (.slice Ao28 t1128.length co28 : Value).ownBlock ∧ some k_ ≠ (.slice Ao34 t1136.length co34 : Value).ownBlock ∧ some k_ ≠ (.slice Ao44 t1145.length co44 : Value).ownBlock ∧ some k_ ≠ (.slice Ao45 t1148.length co45 : Value).ownBlock) (.slice Ao35 t1139.length co35) t1139) := ⟨by (with_reducible repeat (first | apply Kd.Zf | apply Kd.Ze | apply Kd.Zj)); exact Kd.Zv (Kd.Yh (p := ⟨gb1152, 2, none⟩) (Kd.Yh (p := ⟨gb1152, 1, none⟩) (Kd.Yh (p := ⟨gb1152, 0, none⟩) (Kd.Yq HO1141.out BK1152.out (by decide)) (fun _ hk => hk.2) (.bool t1144)) (fun _ hk => hk.2) (.slice Ao44 t1145.length co44)) (fun _ hk => hk.2) (.slice Ao45 t1148.length co45)) (fun _ hk => ⟨hk.1.1.1.1, ⟨hk.1.1.1.2.1, ⟨hk.1.1.1.2.2.1, ⟨hk.1.1.1.2.2.2.1, ⟨hk.1.1.1.2.2.2.2, ⟨hk.1.1.2, hk.1.2⟩⟩⟩⟩⟩⟩)⟩
 have n6_ : Yt (Kd.R (Kd.int .u32) 47 (((w40.setCell ⟨gb1152, 0, none⟩ (.bool t1144)).setCell ⟨gb1152, 1, none⟩ (.slice Ao44 t1145.length co44)).setCell ⟨gb1152, 2, none⟩ (.slice Ao45 t1148.length co45)) w.heap.size (fun k_ => some k_ ≠ (.slice Ao22 y1118.length co22 : Value).ownBlock ∧ some k_ ≠ (.slice Ao23 y1121.length co23 : Value).ownBlock ∧ some k_ ≠ (.slice Ao27 t1125.length co27 : Value).ownBlock ∧ some k_ ≠ (.slice Ao28 t1128.length co28 : Value).ownBlock ∧ some k_ ≠ (.slice Ao34 t1136.length co34 : Value).ownBlock ∧ some k_ ≠ (.slice Ao35 t1139.length co35 : Value).ownBlock ∧ some k_ ≠ (.slice Ao45 t1148.length co45 : Value).ownBlock) (.slice Ao44 t1145.length co44) t1145) := ⟨by (with_reducible repeat (first | apply Kd.Zf | apply Kd.Ze | apply Kd.Zj)); exact Kd.Zv (Kd.Yh (p := ⟨gb1152, 2, none⟩) (Kd.Yh (p := ⟨gb1152, 1, none⟩) (Kd.Yh (p := ⟨gb1152, 0, none⟩) (Kd.Yq HO1147.out BK1152.out (by decide)) (fun _ hk => hk.2) (.bool t1144)) (fun _ hk => hk.2) (.slice Ao44 t1145.length co44)) (fun _ hk => hk.2) (.slice Ao45 t1148.length co45)) (fun _ hk => ⟨hk.1.1.1.1.1.1.2, ⟨hk.1.1.1.1.1.2, ⟨hk.1.1.1.1.2, ⟨hk.1.1.1.2, ⟨hk.1.1.2, ⟨hk.1.2, hk.1.1.1.1.1.1.1⟩⟩⟩⟩⟩⟩)⟩
 have n7_ : Yt (Kd.R (Kd.int .u32) 47 (((w40.setCell ⟨gb1152, 0, none⟩ (.bool t1144)).setCell ⟨gb1152, 1, none⟩ (.slice Ao44 t1145.length co44)).setCell ⟨gb1152, 2, none⟩ (.slice Ao45 t1148.length co45)) w.heap.size (fun k_ => some k_ ≠ (.slice Ao22 y1118.length co22 : Value).ownBlock ∧ some k_ ≠ (.slice Ao23 y1121.length co23 : Value).ownBlock ∧ some k_ ≠ (.slice Ao27 t1125.length co27 : Value).ownBlock ∧ some k_ ≠ (.slice Ao28 t1128.length co28 : Value).ownBlock ∧ some k_ ≠ (.slice Ao34 t1136.length co34 : Value).ownBlock ∧ some k_ ≠ (.slice Ao35 t1139.length co35 : Value).ownBlock ∧ some k_ ≠ (.slice Ao44 t1145.length co44 : Value).ownBlock) (.slice Ao45 t1148.length co45) t1148) := ⟨by (with_reducible repeat (first | apply Kd.Zf | apply Kd.Ze | apply Kd.Zj)); exact Kd.Zv (Kd.Yh (p := ⟨gb1152, 2, none⟩) (Kd.Yh (p := ⟨gb1152, 1, none⟩) (Kd.Yh (p := ⟨gb1152, 0, none⟩) (Kd.Yq HO1150.out BK1152.out (by decide)) (fun _ hk => hk.2) (.bool t1144)) (fun _ hk => hk.2) (.slice Ao44 t1145.length co44)) (fun _ hk => hk.2) (.slice Ao45 t1148.length co45)) (fun _ hk => ⟨hk.1.1.1.1.1.1.2, ⟨hk.1.1.1.1.1.2, ⟨hk.1.1.1.1.2, ⟨hk.1.1.1.2, ⟨hk.1.1.2, ⟨hk.1.2, hk.1.1.1.1.1.1.1⟩⟩⟩⟩⟩⟩)⟩
 have n8_ : Yt ((((w40.setCell ⟨gb1152, 0, none⟩ (.bool t1144)).setCell ⟨gb1152, 1, none⟩ (.slice Ao44 t1145.length co44)).setCell ⟨gb1152, 2, none⟩ (.slice Ao45 t1148.length co45)).heap[gb1132]? = some (.cells #[.bool t1124, .slice Ao27 t1125.length co27, .slice Ao28 t1128.length co28] 50 (0, 0))) := ⟨by (with_reducible repeat (first | refine Zg ?_ _ | refine Zi ?_ | refine Zh ?_ _)); refine blk_far ?_ NB1132_1152.out _; (with_reducible repeat (first | refine Zg ?_ _ | refine Zi ?_ | refine Zh ?_ _)); refine blk_far ?_ NB1132_1152.out _; (with_reducible repeat (first | refine Zg ?_ _ | refine Zi ?_ | refine Zh ?_ _)); refine blk_far ?_ NB1132_1152.out _; (with_reducible repeat (first | refine Zg ?_ _ | refine Zi ?_ | refine Zh ?_ _)); exact BK1132.out⟩
 have n9_ : Yt ((((w40.setCell ⟨gb1152, 0, none⟩ (.bool t1144)).setCell ⟨gb1152, 1, none⟩ (.slice Ao44 t1145.length co44)).setCell ⟨gb1152, 2, none⟩ (.slice Ao45 t1148.length co45)).heap[gb1143]? = some (.cells #[.bool t1135, .slice Ao34 t1136.length co34, .slice Ao35 t1139.length co35] 50 (0, 0))) := ⟨by (with_reducible repeat (first | refine Zg ?_ _ | refine Zi ?_ | refine Zh ?_ _)); refine blk_far ?_ NB1143_1152.out _; (with_reducible repeat (first | refine Zg ?_ _ | refine Zi ?_ | refine Zh ?_ _)); refine blk_far ?_ NB1143_1152.out _; (with_reducible repeat (first | refine Zg ?_ _ | refine Zi ?_ | refine Zh ?_ _)); refine blk_far ?_ NB1143_1152.out _; (with_reducible repeat (first | refine Zg ?_ _ | refine Zi ?_ | refine Zh ?_ _)); exact BK1143.out⟩
 have n10_ : Yt ((((w40.setCell ⟨gb1152, 0, none⟩ (.bool t1144)).setCell ⟨gb1152, 1, none⟩ (.slice Ao44 t1145.length co44)).setCell ⟨gb1152, 2, none⟩ (.slice Ao45 t1148.length co45)).heap[gb1152]? = some (.cells #[.bool t1144, .slice Ao44 t1145.length co44, .slice Ao45 t1148.length co45] 50 (0, 0))) := ⟨by (with_reducible repeat (first | refine Zg ?_ _ | refine Zi ?_ | refine Zh ?_ _)); refine Ym (cs := #[.bool t1144, .slice Ao44 t1145.length co44, .slice none 0 0]) ?_ 2 _ rfl; (with_reducible repeat (first | refine Zg ?_ _ | refine Zi ?_ | refine Zh ?_ _)); refine Ym (cs := #[.bool t1144, .slice none 0 0, .slice none 0 0]) ?_ 1 _ rfl; (with_reducible repeat (first | refine Zg ?_ _ | refine Zi ?_ | refine Zh ?_ _)); refine Ym (cs := #[.bool false, .slice none 0 0, .slice none 0 0]) ?_ 0 _ rfl; (with_reducible repeat (first | refine Zg ?_ _ | refine Zi ?_ | refine Zh ?_ _)); exact BK1152.out⟩
 have n11_ : Yt (Below w.heap.size w (((w40.setCell ⟨gb1152, 0, none⟩ (.bool t1144)).setCell ⟨gb1152, 1, none⟩ (.slice Ao44 t1145.length co44)).setCell ⟨gb1152, 2, none⟩ (.slice Ao45 t1148.length co45))) := ⟨Qa0⟩
 (try clear HO1120)
 (try clear HO1123)
 (try clear HO1127)
 (try clear HO1130)
 (try clear HO1138)
 (try clear HO1141)
 (try clear HO1147)
 (try clear HO1150)
 (try clear BK1132)
 (try clear BK1143)
 (try clear BK1152)
 (try clear HB)
 generalize (((w40.setCell ⟨gb1152, 0, none⟩ (.bool t1144)).setCell ⟨gb1152, 1, none⟩ (.slice Ao44 t1145.length co44)).setCell ⟨gb1152, 2, none⟩ (.slice Ao45 t1148.length co45)) = w46 at n0_ n1_ n2_ n3_ n4_ n5_ n6_ n7_ n8_ n9_ n10_ n11_ ⊢
 have HO1120 := n0_
 have HO1123 := n1_
 have HO1127 := n2_
 have HO1130 := n3_
 have HO1138 := n4_
 have HO1141 := n5_
 have HO1147 := n6_
 have HO1150 := n7_
 have BK1132 := n8_
 have BK1143 := n9_
 have BK1152 := n10_
 have HB := n11_
 clear n0_ n1_ n2_ n3_ n4_ n5_ n6_ n7_ n8_ n9_ n10_ n11_
 replace HO1120 := Yt.mk (Kd.Zj HO1120.out)
 replace HO1123 := Yt.mk (Kd.Zj HO1123.out)
 replace HO1127 := Yt.mk (Kd.Zj HO1127.out)
 replace HO1130 := Yt.mk (Kd.Zj HO1130.out)
 replace HO1138 := Yt.mk (Kd.Zj HO1138.out)
 replace HO1141 := Yt.mk (Kd.Zj HO1141.out)
 replace HO1147 := Yt.mk (Kd.Zj HO1147.out)
 replace HO1150 := Yt.mk (Kd.Zj HO1150.out)
 replace BK1132 := Yt.mk (Zi BK1132.out)
 replace BK1143 := Yt.mk (Zi BK1143.out)
 replace BK1152 := Yt.mk (Zi BK1152.out)
 replace HB := Yt.mk (Zc HB.out)
 refine start_ (n := 19) (S := fun w' => w'.cell? ⟨gb1152, 0, none⟩ = some (.bool t1144) ∧ w'.cell? ⟨gb1152, 1, none⟩ = some (.slice Ao44 t1145.length co44) ∧ w'.cell? ⟨gb1152, 2, none⟩ = some (.slice Ao45 t1148.length co45) ∧ w'.cell? ⟨gb1132, 0, none⟩ = some (.bool t1124) ∧ w'.cell? ⟨gb1132, 1, none⟩ = some (.slice Ao27 t1125.length co27) ∧ w'.cell? ⟨gb1132, 2, none⟩ = some (.slice Ao28 t1128.length co28) ∧ w'.cell? ⟨gb1143, 0, none⟩ = some (.bool t1135) ∧ w'.cell? ⟨gb1143, 1, none⟩ = some (.slice Ao34 t1136.length co34) ∧ w'.cell? ⟨gb1143, 2, none⟩ = some (.slice Ao35 t1139.length co35)) (ds := []) #[false, false, false, false, false, false, false, false, false, false, false, false, false, false, false, false, false, false, false] Qa7 rfl rfl ⟨(Zl BK1152.out 0).trans rfl, (Zl BK1152.out 1).trans rfl, (Zl BK1152.out 2).trans rfl, (Zl BK1132.out 0).trans rfl, (Zl BK1132.out 1).trans rfl, (Zl BK1132.out 2).trans rfl, (Zl BK1143.out 0).trans rfl, (Zl BK1143.out 1).trans rfl, (Zl BK1143.out 2).trans rfl⟩ (fun hHeld => ?_); refine with_tabW w2_wakes.tab7 w2_wakes.bits7 (fun HT_ HW_ => ?_)
 generalize w46.drew = w47 at HO1120 HO1123 HO1127 HO1130 HO1138 HO1141 HO1147 HO1150 BK1132 BK1143 BK1152 HB hHeld ⊢
 refine take_ (i := 0) (N := some 48) (v := ?_) (a' := ?_) #[true, false, false, false, false, false, false, false, false, false, false, false, false, false, false, false, false, false, false] rfl rfl (take_ofW HT_.out HW_.out Qa7) (fun _ _ _ h => h) (Or.inl ⟨by rfl, ?_⟩) hHeld ?_ ?_
 rotate_left
 ·rintro w' ⟨s0, s1, s2, s3, s4, s5, s6, s7, s8⟩
  go_simp
  with_reducible rfl
 rotate_left
 ·simp only [Act.put, List.setIfInBounds_toArray, List.set_cons_zero, List.set_cons_succ, Yi, Yj]
  rfl
 refine one_ (i := 1) (N := some 49) #[true, true, false, false, false, false, false, false, false, false, false, false, false, false, false, false, false, false, false] rfl rfl (one_of HT_.out Qa7) (by decide) (fun K hK => ?_)
 refine goes_ Try.func55 Qa7 rfl #[.int .i64 0] (by rfl) rfl rfl Qa2 ?_
 with_reducible refine (ratio_Of.calls k 0 t1153 t1154 t1157 _ A10.out).mono ?_
 rintro e w48 ⟨v1155, v1158, rfl, ho0, ho1, hb⟩
 refine ⟨_, rfl, ?_⟩
 have HO1156 := Yt.mk (Kd.Yb (Kd.Ya (Kd.Ya (Kd.Ya (Kd.Ya (Kd.Ya (Kd.Ya (Kd.Ya (Kd.Ya ho0 (Kd.R_lt (Qr1 HO1120.out))) (Kd.R_lt (Qr1 HO1123.out))) (Kd.R_lt (Qr1 HO1127.out))) (Kd.R_lt (Qr1 HO1130.out))) (Kd.R_lt (Qr1 HO1138.out))) (Kd.R_lt (Qr1 HO1141.out))) (Kd.R_lt (Qr1 HO1147.out))) (Kd.R_lt (Qr1 HO1150.out))) (Zk (Qa0)))
 have HO1159 := Yt.mk (Kd.Yb (Kd.Ya (Kd.Ya (Kd.Ya (Kd.Ya (Kd.Ya (Kd.Ya (Kd.Ya (Kd.Ya ho1 (Kd.R_lt (Qr1 HO1120.out))) (Kd.R_lt (Qr1 HO1123.out))) (Kd.R_lt (Qr1 HO1127.out))) (Kd.R_lt (Qr1 HO1130.out))) (Kd.R_lt (Qr1 HO1138.out))) (Kd.R_lt (Qr1 HO1141.out))) (Kd.R_lt (Qr1 HO1147.out))) (Kd.R_lt (Qr1 HO1150.out))) (Zk (Qa0)))
 replace HO1120 := Yt.mk (Kd.Zv (Kd.Yl (Kd.Yl (Kd.R_old (Qr1 HO1120.out) hb) (Kd.Zw ho0)) (Kd.Zw ho1)) (fun _ h_ => h_.1))
 replace HO1123 := Yt.mk (Kd.Zv (Kd.Yl (Kd.Yl (Kd.R_old (Qr1 HO1123.out) hb) (Kd.Zw ho0)) (Kd.Zw ho1)) (fun _ h_ => h_.1))
 replace HO1127 := Yt.mk (Kd.Zv (Kd.Yl (Kd.Yl (Kd.R_old (Qr1 HO1127.out) hb) (Kd.Zw ho0)) (Kd.Zw ho1)) (fun _ h_ => h_.1))
 replace HO1130 := Yt.mk (Kd.Zv (Kd.Yl (Kd.Yl (Kd.R_old (Qr1 HO1130.out) hb) (Kd.Zw ho0)) (Kd.Zw ho1)) (fun _ h_ => h_.1))
 replace HO1138 := Yt.mk (Kd.Zv (Kd.Yl (Kd.Yl (Kd.R_old (Qr1 HO1138.out) hb) (Kd.Zw ho0)) (Kd.Zw ho1)) (fun _ h_ => h_.1))
 replace HO1141 := Yt.mk (Kd.Zv (Kd.Yl (Kd.Yl (Kd.R_old (Qr1 HO1141.out) hb) (Kd.Zw ho0)) (Kd.Zw ho1)) (fun _ h_ => h_.1))
 replace HO1147 := Yt.mk (Kd.Zv (Kd.Yl (Kd.Yl (Kd.R_old (Qr1 HO1147.out) hb) (Kd.Zw ho0)) (Kd.Zw ho1)) (fun _ h_ => h_.1))
 replace HO1150 := Yt.mk (Kd.Zv (Kd.Yl (Kd.Yl (Kd.R_old (Qr1 HO1150.out) hb) (Kd.Zw ho0)) (Kd.Zw ho1)) (fun _ h_ => h_.1))
 replace BK1132 := Yt.mk (Zq (g := gb1132) (o := .cells #[.bool t1124, .slice Ao27 t1125.length co27, .slice Ao28 t1128.length co28] 50 (0, 0)) (Qr12 BK1132.out) hb)
 replace BK1143 := Yt.mk (Zq (g := gb1143) (o := .cells #[.bool t1135, .slice Ao34 t1136.length co34, .slice Ao35 t1139.length co35] 50 (0, 0)) (Qr12 BK1143.out) hb)
 replace BK1152 := Yt.mk (Zq (g := gb1152) (o := .cells #[.bool t1144, .slice Ao44 t1145.length co44, .slice Ao45 t1148.length co45] 50 (0, 0)) (Qr12 BK1152.out) hb)
 replace HB := Yt.mk (Zm (Qa0) hb)
 (try clear hb)
 (try clear hb2)
 (try clear hk)
 (try clear hi)
 (try clear ho0)
 (try clear ho1)
 obtain ⟨Ao49, co49, eo49⟩ := Kd.Zx HO1156.out
 (first | subst eo49 | (injection eo49 with f1_ f2_ f3_; have f4_ := f1_.symm; have f5_ := f3_.symm; clear f1_ f2_ f3_; subst f4_; subst f5_))
 obtain ⟨Ao50, co50, eo50⟩ := Kd.Zx HO1159.out
 (first | subst eo50 | (injection eo50 with f1_ f2_ f3_; have f4_ := f1_.symm; have f5_ := f3_.symm; clear f1_ f2_ f3_; subst f4_; subst f5_))
 refine hK.out _ _ ⟨(Zl BK1152.out 0).trans rfl, (Zl BK1152.out 1).trans rfl, (Zl BK1152.out 2).trans rfl, (Zl BK1132.out 0).trans rfl, (Zl BK1132.out 1).trans rfl, (Zl BK1132.out 2).trans rfl, (Zl BK1143.out 0).trans rfl, (Zl BK1143.out 1).trans rfl, (Zl BK1143.out 2).trans rfl⟩ (fun hHeld => ?_)
 clear hK K
 refine norm_ (a' := ?_) ?_ ?_
 rotate_left
 ·show Act.put _ (some 49) _ = _
  simp only [Act.put, List.setIfInBounds_toArray, List.set_cons_zero, List.set_cons_succ, Yi, Yj]
  rfl
 refine one_ (i := 2) (N := some 50) #[true, true, true, false, false, false, false, false, false, false, false, false, false, false, false, false, false, false, false] rfl rfl (one_of HT_.out Qa7) (by decide) (fun K hK => ?_)
 refine goes_ Try.func53 Qa7 rfl #[.agg #[.bool t1144, .slice Ao44 t1145.length co44, .slice Ao45 t1148.length co45], .agg #[.bool t1153, .slice Ao49 t1154.length co49, .slice Ao50 t1157.length co50]] (by rfl) rfl rfl Qa2 ?_
 with_reducible refine (ratio_Same.calls k t1144 _ _ t1145 _ _ t1148 t1153 _ _ t1154 _ _ t1157 true _ ?side1 ?side2 ?side3 ?side4 ?side5 ?side6 ?side7 ?side8 A11.out).mono ?_
 (case side1 => exact Qe9 (Kd.Zs HO1147.out).2.2)
 (case side2 => exact (Kd.Zs HO1147.out).2.1)
 (case side3 => exact Qe9 (Kd.Zs HO1150.out).2.2)
 (case side4 => exact (Kd.Zs HO1150.out).2.1)
 (case side5 => exact Qe9 (Kd.Zs HO1156.out).2.2)
 (case side6 => exact (Kd.Zs HO1156.out).2.1)
 (case side7 => exact Qe9 (Kd.Zs HO1159.out).2.2)
 (case side8 => exact (Kd.Zs HO1159.out).2.1)
 rintro e w51 ⟨rfl, hb⟩
 refine ⟨_, rfl, ?_⟩
 replace HO1120 := Yt.mk (Kd.Yd (Qr1 HO1120.out) hb)
 replace HO1123 := Yt.mk (Kd.Yd (Qr1 HO1123.out) hb)
 replace HO1127 := Yt.mk (Kd.Yd (Qr1 HO1127.out) hb)
 replace HO1130 := Yt.mk (Kd.Yd (Qr1 HO1130.out) hb)
 replace HO1138 := Yt.mk (Kd.Yd (Qr1 HO1138.out) hb)
 replace HO1141 := Yt.mk (Kd.Yd (Qr1 HO1141.out) hb)
 replace HO1147 := Yt.mk (Kd.Yd (Qr1 HO1147.out) hb)
 replace HO1150 := Yt.mk (Kd.Yd (Qr1 HO1150.out) hb)
 replace HO1156 := Yt.mk (Kd.Yd (Qr1 HO1156.out) hb)
 replace HO1159 := Yt.mk (Kd.Yd (Qr1 HO1159.out) hb)
 replace BK1132 := Yt.mk (Zq (g := gb1132) (o := .cells #[.bool t1124, .slice Ao27 t1125.length co27, .slice Ao28 t1128.length co28] 50 (0, 0)) (Qr12 BK1132.out) hb)
 replace BK1143 := Yt.mk (Zq (g := gb1143) (o := .cells #[.bool t1135, .slice Ao34 t1136.length co34, .slice Ao35 t1139.length co35] 50 (0, 0)) (Qr12 BK1143.out) hb)
 replace BK1152 := Yt.mk (Zq (g := gb1152) (o := .cells #[.bool t1144, .slice Ao44 t1145.length co44, .slice Ao45 t1148.length co45] 50 (0, 0)) (Qr12 BK1152.out) hb)
 replace HB := Yt.mk (Zm (Qa0) hb)
 (try clear hb)
 (try clear hb2)
 (try clear hk)
 (try clear hi)
 refine hK.out _ _ ⟨(Zl BK1152.out 0).trans rfl, (Zl BK1152.out 1).trans rfl, (Zl BK1152.out 2).trans rfl, (Zl BK1132.out 0).trans rfl, (Zl BK1132.out 1).trans rfl, (Zl BK1132.out 2).trans rfl, (Zl BK1143.out 0).trans rfl, (Zl BK1143.out 1).trans rfl, (Zl BK1143.out 2).trans rfl⟩ (fun hHeld => ?_)
 clear hK K
 refine norm_ (a' := ?_) ?_ ?_
 rotate_left
 ·show Act.put _ (some 50) _ = _
  simp only [Act.put, List.setIfInBounds_toArray, List.set_cons_zero, List.set_cons_succ, Yi, Yj]
  rfl
 refine pure_ (i := 3) (N := some 51) (v := ?_) (a' := ?_) #[true, true, true, true, false, false, false, false, false, false, false, false, false, false, false, false, false, false, false] rfl rfl (any_of HT_.out Qa7) (fun _ _ _ h => h) (Or.inl ⟨by rfl, ?_⟩) ?_ ?_
 rotate_left
 ·intro w'
  go_simp
  with_reducible rfl
 rotate_left
 ·simp only [Act.put, List.setIfInBounds_toArray, List.set_cons_zero, List.set_cons_succ, Yi, Yj]
  rfl
 refine take_ (i := 4) (N := some 52) (v := ?_) (a' := ?_) #[true, true, true, true, true, false, false, false, false, false, false, false, false, false, false, false, false, false, false] rfl rfl (take_ofW HT_.out HW_.out Qa7) (fun _ _ _ h => h) (Or.inl ⟨by rfl, ?_⟩) hHeld ?_ ?_
 rotate_left
 ·rintro w' ⟨s0, s1, s2, s3, s4, s5, s6, s7, s8⟩
  go_simp
  with_reducible rfl
 rotate_left
 ·simp only [Act.put, List.setIfInBounds_toArray, List.set_cons_zero, List.set_cons_succ, Yi, Yj]
  rfl
 refine one_ (i := 5) (N := some 53) #[true, true, true, true, true, true, false, false, false, false, false, false, false, false, false, false, false, false, false] rfl rfl (one_of HT_.out Qa7) (by decide) (fun K hK => ?_)
 refine goes_ Try.func50 Qa7 rfl #[.agg #[.bool t1124, .slice Ao27 t1125.length co27, .slice Ao28 t1128.length co28]] (by rfl) rfl rfl Qa2 ?_
 with_reducible refine (ratio_Form.calls k t1124 _ _ t1125 _ _ t1128 true _ ?side1 ?side2 ?side3 ?side4 A13.out).mono ?_
 (case side1 => exact Qe9 (Kd.Zs HO1127.out).2.2)
 (case side2 => exact (Kd.Zs HO1127.out).2.1)
 (case side3 => exact Qe9 (Kd.Zs HO1130.out).2.2)
 (case side4 => exact (Kd.Zs HO1130.out).2.1)
 rintro e w52 ⟨rfl, hb⟩
 refine ⟨_, rfl, ?_⟩
 replace HO1120 := Yt.mk (Kd.Yd (Qr1 HO1120.out) hb)
 replace HO1123 := Yt.mk (Kd.Yd (Qr1 HO1123.out) hb)
 replace HO1127 := Yt.mk (Kd.Yd (Qr1 HO1127.out) hb)
 replace HO1130 := Yt.mk (Kd.Yd (Qr1 HO1130.out) hb)
 replace HO1138 := Yt.mk (Kd.Yd (Qr1 HO1138.out) hb)
 replace HO1141 := Yt.mk (Kd.Yd (Qr1 HO1141.out) hb)
 replace HO1147 := Yt.mk (Kd.Yd (Qr1 HO1147.out) hb)
 replace HO1150 := Yt.mk (Kd.Yd (Qr1 HO1150.out) hb)
 replace HO1156 := Yt.mk (Kd.Yd (Qr1 HO1156.out) hb)
 replace HO1159 := Yt.mk (Kd.Yd (Qr1 HO1159.out) hb)
 replace BK1132 := Yt.mk (Zq (g := gb1132) (o := .cells #[.bool t1124, .slice Ao27 t1125.length co27, .slice Ao28 t1128.length co28] 50 (0, 0)) (Qr12 BK1132.out) hb)
 replace BK1143 := Yt.mk (Zq (g := gb1143) (o := .cells #[.bool t1135, .slice Ao34 t1136.length co34, .slice Ao35 t1139.length co35] 50 (0, 0)) (Qr12 BK1143.out) hb)
 replace BK1152 := Yt.mk (Zq (g := gb1152) (o := .cells #[.bool t1144, .slice Ao44 t1145.length co44, .slice Ao45 t1148.length co45] 50 (0, 0)) (Qr12 BK1152.out) hb)
 replace HB := Yt.mk (Zm (Qa0) hb)
 (try clear hb)
 (try clear hb2)
 (try clear hk)
 (try clear hi)
 refine hK.out _ _ ⟨(Zl BK1152.out 0).trans rfl, (Zl BK1152.out 1).trans rfl, (Zl BK1152.out 2).trans rfl, (Zl BK1132.out 0).trans rfl, (Zl BK1132.out 1).trans rfl, (Zl BK1132.out 2).trans rfl, (Zl BK1143.out 0).trans rfl, (Zl BK1143.out 1).trans rfl, (Zl BK1143.out 2).trans rfl⟩ (fun hHeld => ?_)
 clear hK K
 refine norm_ (a' := ?_) ?_ ?_
 rotate_left
 ·show Act.put _ (some 53) _ = _
  simp only [Act.put, List.setIfInBounds_toArray, List.set_cons_zero, List.set_cons_succ, Yi, Yj]
  rfl
 refine pure_ (i := 6) (N := some 54) (v := ?_) (a' := ?_) #[true, true, true, true, true, true, true, false, false, false, false, false, false, false, false, false, false, false, false] rfl rfl (any_of HT_.out Qa7) (fun _ _ _ h => h) (Or.inl ⟨by rfl, ?_⟩) ?_ ?_
 rotate_left
 ·intro w'
  go_simp
  with_reducible rfl
 rotate_left
 ·simp only [Act.put, List.setIfInBounds_toArray, List.set_cons_zero, List.set_cons_succ, Yi, Yj]
  rfl
 refine pure_ (i := 7) (N := some 55) (v := ?_) (a' := ?_) #[true, true, true, true, true, true, true, true, false, false, false, false, false, false, false, false, false, false, false] rfl rfl (any_of HT_.out Qa7) (fun _ _ _ h => h) (Or.inl ⟨by rfl, ?_⟩) ?_ ?_
 rotate_left
 ·intro w'
  go_simp
  with_reducible rfl
 rotate_left
 ·simp only [Act.put, List.setIfInBounds_toArray, List.set_cons_zero, List.set_cons_succ, Yi, Yj]
  rfl
 refine pure_ (i := 8) (N := some 56) (v := ?_) (a' := ?_) #[true, true, true, true, true, true, true, true, true, false, false, false, false, false, false, false, false, false, false] rfl rfl (any_of HT_.out Qa7) (fun _ _ _ h => h) (Or.inl ⟨by rfl, ?_⟩) ?_ ?_
 rotate_left
 ·intro w'
  go_simp
  with_reducible rfl
 rotate_left
 ·simp only [Act.put, List.setIfInBounds_toArray, List.set_cons_zero, List.set_cons_succ, Yi, Yj]
  rfl
 refine one_ (i := 9) (N := some 57) #[true, true, true, true, true, true, true, true, true, true, false, false, false, false, false, false, false, false, false] rfl rfl (one_of HT_.out Qa7) (by decide) (fun K hK => ?_)
 refine goes_ Try.func50 Qa7 rfl #[.agg #[.bool false, .slice none 0 0, .slice none 0 0]] (by rfl) rfl rfl Qa2 ?_
 refine (ratio_Form.calls k false _ _ ([] : List Int) _ _ ([] : List Int) false _ ?side1 ?side2 ?side3 ?side4 A15.out).mono ?_
 (case side1 => exact Kd.C_nil _ _)
 (case side2 => exact Nat.le_refl _)
 (case side3 => exact Kd.C_nil _ _)
 (case side4 => exact Nat.le_refl _)
 rintro e w53 ⟨rfl, hb⟩
 refine ⟨_, rfl, ?_⟩
 replace HO1120 := Yt.mk (Kd.Yd (Qr1 HO1120.out) hb)
 replace HO1123 := Yt.mk (Kd.Yd (Qr1 HO1123.out) hb)
 replace HO1127 := Yt.mk (Kd.Yd (Qr1 HO1127.out) hb)
 replace HO1130 := Yt.mk (Kd.Yd (Qr1 HO1130.out) hb)
 replace HO1138 := Yt.mk (Kd.Yd (Qr1 HO1138.out) hb)
 replace HO1141 := Yt.mk (Kd.Yd (Qr1 HO1141.out) hb)
 replace HO1147 := Yt.mk (Kd.Yd (Qr1 HO1147.out) hb)
 replace HO1150 := Yt.mk (Kd.Yd (Qr1 HO1150.out) hb)
 replace HO1156 := Yt.mk (Kd.Yd (Qr1 HO1156.out) hb)
 replace HO1159 := Yt.mk (Kd.Yd (Qr1 HO1159.out) hb)
 replace BK1132 := Yt.mk (Zq (g := gb1132) (o := .cells #[.bool t1124, .slice Ao27 t1125.length co27, .slice Ao28 t1128.length co28] 50 (0, 0)) (Qr12 BK1132.out) hb)
 replace BK1143 := Yt.mk (Zq (g := gb1143) (o := .cells #[.bool t1135, .slice Ao34 t1136.length co34, .slice Ao35 t1139.length co35] 50 (0, 0)) (Qr12 BK1143.out) hb)
 replace BK1152 := Yt.mk (Zq (g := gb1152) (o := .cells #[.bool t1144, .slice Ao44 t1145.length co44, .slice Ao45 t1148.length co45] 50 (0, 0)) (Qr12 BK1152.out) hb)
 replace HB := Yt.mk (Zm (Qa0) hb)
 (try clear hb)
 (try clear hb2)
 (try clear hk)
 (try clear hi)
 refine hK.out _ _ ⟨(Zl BK1152.out 0).trans rfl, (Zl BK1152.out 1).trans rfl, (Zl BK1152.out 2).trans rfl, (Zl BK1132.out 0).trans rfl, (Zl BK1132.out 1).trans rfl, (Zl BK1132.out 2).trans rfl, (Zl BK1143.out 0).trans rfl, (Zl BK1143.out 1).trans rfl, (Zl BK1143.out 2).trans rfl⟩ (fun hHeld => ?_)
 clear hK K
 refine norm_ (a' := ?_) ?_ ?_
 rotate_left
 ·show Act.put _ (some 57) _ = _
  simp only [Act.put, List.setIfInBounds_toArray, List.set_cons_zero, List.set_cons_succ, Yi, Yj]
  rfl
 refine pure_ (i := 10) (N := some 58) (v := ?_) (a' := ?_) #[true, true, true, true, true, true, true, true, true, true, true, false, false, false, false, false, false, false, false] rfl rfl (any_of HT_.out Qa7) (fun _ _ _ h => h) (Or.inl ⟨by rfl, ?_⟩) ?_ ?_
 rotate_left
 ·intro w'
  go_simp
  with_reducible rfl
 rotate_left
 ·simp only [Act.put, List.setIfInBounds_toArray, List.set_cons_zero, List.set_cons_succ, Yi, Yj]
  rfl
 refine pure_ (i := 11) (N := some 59) (v := ?_) (a' := ?_) #[true, true, true, true, true, true, true, true, true, true, true, true, false, false, false, false, false, false, false] rfl rfl (any_of HT_.out Qa7) (fun _ _ _ h => h) (Or.inl ⟨by rfl, ?_⟩) ?_ ?_
 rotate_left
 ·intro w'
  go_simp
  with_reducible rfl
 rotate_left
 ·simp only [Act.put, List.setIfInBounds_toArray, List.set_cons_zero, List.set_cons_succ, Yi, Yj]
  rfl
 refine pure_ (i := 12) (N := some 60) (v := ?_) (a' := ?_) #[true, true, true, true, true, true, true, true, true, true, true, true, true, false, false, false, false, false, false] rfl rfl (any_of HT_.out Qa7) (fun _ _ _ h => h) (Or.inl ⟨by rfl, ?_⟩) ?_ ?_
 rotate_left
 ·intro w'
  go_simp
  with_reducible rfl
 rotate_left
 ·simp only [Act.put, List.setIfInBounds_toArray, List.set_cons_zero, List.set_cons_succ, Yi, Yj]
  rfl
 refine take_ (i := 13) (N := some 61) (v := ?_) (a' := ?_) #[true, true, true, true, true, true, true, true, true, true, true, true, true, true, false, false, false, false, false] rfl rfl (take_ofW HT_.out HW_.out Qa7) (fun _ _ _ h => h) (Or.inl ⟨by rfl, ?_⟩) hHeld ?_ ?_
 rotate_left
 ·rintro w' ⟨s0, s1, s2, s3, s4, s5, s6, s7, s8⟩
  go_simp
  with_reducible rfl
 rotate_left
 ·simp only [Act.put, List.setIfInBounds_toArray, List.set_cons_zero, List.set_cons_succ, Yi, Yj]
  rfl
 refine take_ (i := 14) (N := some 62) (v := ?_) (a' := ?_) #[true, true, true, true, true, true, true, true, true, true, true, true, true, true, true, false, false, false, false] rfl rfl (take_ofW HT_.out HW_.out Qa7) (fun _ _ _ h => h) (Or.inl ⟨by rfl, ?_⟩) hHeld ?_ ?_
 rotate_left
 ·rintro w' ⟨s0, s1, s2, s3, s4, s5, s6, s7, s8⟩
  go_simp
  with_reducible rfl
 rotate_left
 ·simp only [Act.put, List.setIfInBounds_toArray, List.set_cons_zero, List.set_cons_succ, Yi, Yj]
  rfl
 refine one_ (i := 15) (N := some 63) #[true, true, true, true, true, true, true, true, true, true, true, true, true, true, true, true, false, false, false] rfl rfl (one_of HT_.out Qa7) (by decide) (fun K hK => ?_)
 refine goes_ Try.func53 Qa7 rfl #[.agg #[.bool t1124, .slice Ao27 t1125.length co27, .slice Ao28 t1128.length co28], .agg #[.bool t1135, .slice Ao34 t1136.length co34, .slice Ao35 t1139.length co35]] (by rfl) rfl rfl Qa2 ?_
 with_reducible refine (ratio_Same.calls k t1124 _ _ t1125 _ _ t1128 t1135 _ _ t1136 _ _ t1139 t1163 _ ?side1 ?side2 ?side3 ?side4 ?side5 ?side6 ?side7 ?side8 A17.out).mono ?_
 (case side1 => exact Qe9 (Kd.Zs HO1127.out).2.2)
 (case side2 => exact (Kd.Zs HO1127.out).2.1)
 (case side3 => exact Qe9 (Kd.Zs HO1130.out).2.2)
 (case side4 => exact (Kd.Zs HO1130.out).2.1)
 (case side5 => exact Qe9 (Kd.Zs HO1138.out).2.2)
 (case side6 => exact (Kd.Zs HO1138.out).2.1)
 (case side7 => exact Qe9 (Kd.Zs HO1141.out).2.2)
 (case side8 => exact (Kd.Zs HO1141.out).2.1)
 rintro e w54 ⟨rfl, hb⟩
 refine ⟨_, rfl, ?_⟩
 replace HO1120 := Yt.mk (Kd.Yd (Qr1 HO1120.out) hb)
 replace HO1123 := Yt.mk (Kd.Yd (Qr1 HO1123.out) hb)
 replace HO1127 := Yt.mk (Kd.Yd (Qr1 HO1127.out) hb)
 replace HO1130 := Yt.mk (Kd.Yd (Qr1 HO1130.out) hb)
 replace HO1138 := Yt.mk (Kd.Yd (Qr1 HO1138.out) hb)
 replace HO1141 := Yt.mk (Kd.Yd (Qr1 HO1141.out) hb)
 replace HO1147 := Yt.mk (Kd.Yd (Qr1 HO1147.out) hb)
 replace HO1150 := Yt.mk (Kd.Yd (Qr1 HO1150.out) hb)
 replace HO1156 := Yt.mk (Kd.Yd (Qr1 HO1156.out) hb)
 replace HO1159 := Yt.mk (Kd.Yd (Qr1 HO1159.out) hb)
 replace BK1132 := Yt.mk (Zq (g := gb1132) (o := .cells #[.bool t1124, .slice Ao27 t1125.length co27, .slice Ao28 t1128.length co28] 50 (0, 0)) (Qr12 BK1132.out) hb)
 replace BK1143 := Yt.mk (Zq (g := gb1143) (o := .cells #[.bool t1135, .slice Ao34 t1136.length co34, .slice Ao35 t1139.length co35] 50 (0, 0)) (Qr12 BK1143.out) hb)
 replace BK1152 := Yt.mk (Zq (g := gb1152) (o := .cells #[.bool t1144, .slice Ao44 t1145.length co44, .slice Ao45 t1148.length co45] 50 (0, 0)) (Qr12 BK1152.out) hb)
 replace HB := Yt.mk (Zm (Qa0) hb)
 (try clear hb)
 (try clear hb2)
 (try clear hk)
 (try clear hi)
 refine hK.out _ _ ⟨(Zl BK1152.out 0).trans rfl, (Zl BK1152.out 1).trans rfl, (Zl BK1152.out 2).trans rfl, (Zl BK1132.out 0).trans rfl, (Zl BK1132.out 1).trans rfl, (Zl BK1132.out 2).trans rfl, (Zl BK1143.out 0).trans rfl, (Zl BK1143.out 1).trans rfl, (Zl BK1143.out 2).trans rfl⟩ (fun hHeld => ?_)
 clear hK K
 refine norm_ (a' := ?_) ?_ ?_
 rotate_left
 ·show Act.put _ (some 63) _ = _
  simp only [Act.put, List.setIfInBounds_toArray, List.set_cons_zero, List.set_cons_succ, Yi, Yj]
  rfl
 refine pure_ (i := 16) (N := some 64) (v := ?_) (a' := ?_) #[true, true, true, true, true, true, true, true, true, true, true, true, true, true, true, true, true, false, false] rfl rfl (any_of HT_.out Qa7) (fun _ _ _ h => h) (Or.inl ⟨by rfl, ?_⟩) ?_ ?_
 rotate_left
 ·intro w'
  go_simp
  with_reducible rfl
 rotate_left
 ·simp only [Act.put, List.setIfInBounds_toArray, List.set_cons_zero, List.set_cons_succ, Yi, Yj]
  rfl
 refine pure_ (i := 17) (N := some 65) (v := ?_) (a' := ?_) #[true, true, true, true, true, true, true, true, true, true, true, true, true, true, true, true, true, true, false] rfl rfl (any_of HT_.out Qa7) (fun _ _ _ h => h) (Or.inl ⟨by rfl, ?_⟩) ?_ ?_
 rotate_left
 ·intro w'
  go_simp
  with_reducible rfl
 rotate_left
 ·simp only [Act.put, List.setIfInBounds_toArray, List.set_cons_zero, List.set_cons_succ, Yi, Yj]
  rfl
 refine pure_ (i := 18) (N := some 0) (v := ?_) (a' := ?_) #[true, true, true, true, true, true, true, true, true, true, true, true, true, true, true, true, true, true, true] rfl rfl (any_of HT_.out Qa7) (fun _ _ _ h => h) (Or.inl ⟨by rfl, ?_⟩) ?_ ?_
 rotate_left
 ·intro w'
  go_simp
  with_reducible rfl
 rotate_left
 ·simp only [Act.put, List.setIfInBounds_toArray, List.set_cons_zero, List.set_cons_succ, Yi, Yj]
  rfl
 refine done_ (done_of HT_.out Qa7) ?_
 try go_wp2
 go_ret
 exact ⟨Qa4, Qa0⟩
def w2_RatioTexts.f (k : Nat) (a0_0 : Bool) (l0_1 : List Int) (l0_2 : List Int) (a1 : ByteArray) : Option (Bool) := (w2_wakes.f k).bind fun t1375 => (if t1375 = true then ((w2_own.f a0_0 l0_1 l0_2).bind fun bt1376 => ((ratio_Text.f k bt1376.1 bt1376.2.1 bt1376.2.2).bind fun bt1383 => ((r2_Text.f k a0_0 l0_1 l0_2).bind fun bt1385 => ((ratio_Read.f k a1).bind fun bt1387 => ((r2_Read.f k a1).bind fun bt1396 => (if bt1383.1.toList = bt1385.1.toList then (if bt1383.2 = bt1385.2 then ((r2_Same.f k bt1387.1 bt1387.2.1 bt1387.2.2.1 bt1396.1 bt1396.2.1 bt1396.2.2.1).bind fun t1405 => (if t1405 = true then (some (bt1387.2.2.2 == bt1396.2.2.2)) else (none))) else (none)) else (none))))))) else (none))
theorem w2_RatioTexts.calls (k : Nat) (a0_0 : Bool) (A0_1 : Option Addr) (c0_1 : Nat) (l0_1 : List Int) (A0_2 : Option Addr) (c0_2 : Nat) (l0_2 : List Int) (a1 : ByteArray) (r : Bool) (w : World) (hr0_1 : Kd.C (Kd.int .u32) w A0_1 l0_1.length l0_1) (hc0_1 : l0_1.length ≤ c0_1) (hr0_2 : Kd.C (Kd.int .u32) w A0_2 l0_2.length l0_2) (hc0_2 : l0_2.length ≤ c0_2) (h : w2_RatioTexts.f k a0_0 l0_1 l0_2 a1 = some r) :
  Calls Try.prog 13 #[.agg #[.bool a0_0, .slice A0_1 l0_1.length c0_1, .slice A0_2 l0_2.length c0_2], .string a1] w fun e w' => e = .returned (.bool r) ∧ Below w.heap.size w w' := by
 have hu50 := Try.underlying50
 have HR0_1 := Yt.mk hr0_1
 have HC0_1 := Yt.mk hc0_1
 clear hr0_1 hc0_1
 have HR0_2 := Yt.mk hr0_2
 have HC0_2 := Yt.mk hc0_2
 clear hr0_2 hc0_2
 have HB := Yt.mk (Below.refl w.heap.size w)
 unfold w2_RatioTexts.f at h
 have H := h
 clear h
 replace H := Option.bind_eq_some_iff.mp H
 obtain ⟨t1375, A30, H⟩ := H
 try dsimp only at H
 have A3 := Yt.mk A30
 clear A30
 by_cases c4 : t1375 = true
 rotate_left
 ·replace c4 := Bool.eq_false_iff.mpr c4
  subst c4
  rw [if_neg (show ¬ (false = true) by decide)] at H
  exact absurd H (by simp)
 subst c4
 rw [if_pos rfl] at H
 replace H := Option.bind_eq_some_iff.mp H
 obtain ⟨⟨t1376, t1377, t1380⟩, A50, H⟩ := H
 try dsimp only at H
 have A5 := Yt.mk A50
 clear A50
 replace H := Option.bind_eq_some_iff.mp H
 obtain ⟨⟨t1383, t1384⟩, A60, H⟩ := H
 try dsimp only at H
 have A6 := Yt.mk A60
 clear A60
 replace H := Option.bind_eq_some_iff.mp H
 obtain ⟨⟨t1385, t1386⟩, A70, H⟩ := H
 try dsimp only at H
 have A7 := Yt.mk A70
 clear A70
 replace H := Option.bind_eq_some_iff.mp H
 obtain ⟨⟨t1387, t1388, t1391, t1394⟩, A80, H⟩ := H
 try dsimp only at H
 have A8 := Yt.mk A80
 clear A80
 replace H := Option.bind_eq_some_iff.mp H
 obtain ⟨⟨t1396, t1397, t1400, t1403⟩, A90, H⟩ := H
 try dsimp only at H
 have A9 := Yt.mk A90
 clear A90
 by_cases c10 : t1383.toList = t1385.toList
 rotate_left
 ·rw [if_neg c10] at H
  exact absurd H (by simp)
 rw [if_pos c10] at H
 have c10b0 : (t1383.toList == t1385.toList) = true := beq_iff_eq.mpr c10
 have c10b1 : (t1383.toList != t1385.toList) = false := bne_eq_false_iff_eq.mpr c10
 clear c10
 by_cases c11 : t1384 = t1386
 rotate_left
 ·rw [if_neg c11] at H
  exact absurd H (by simp)
 rw [if_pos c11] at H
 have c11b0 : (t1384 == t1386) = true := beq_iff_eq.mpr c11
 have c11b1 : (t1384 != t1386) = false := bne_eq_false_iff_eq.mpr c11
 clear c11
 replace H := Option.bind_eq_some_iff.mp H
 obtain ⟨t1405, A120, H⟩ := H
 try dsimp only at H
 have A12 := Yt.mk A120
 clear A120
 by_cases c13 : t1405 = true
 rotate_left
 ·replace c13 := Bool.eq_false_iff.mpr c13
  subst c13
  rw [if_neg (show ¬ (false = true) by decide)] at H
  exact absurd H (by simp)
 subst c13
 rw [if_pos rfl] at H
 obtain rfl := Option.some.inj H
 go_enter Try.func13, Try.ntmps13
 go_wp2_with (first | ((with_reducible refine Yk (N := 2) rfl ?_); refine Yo ?hg (N := 2) ?hd (cs := #[.bool a0_0, .slice A0_1 l0_1.length c0_1, .slice A0_2 l0_2.length c0_2]) (t := 50) ?hr ?_; (case hd => rfl); (case hg => rfl); (case hr => exact Qa8); intro gb1374 hg w14 hbox hb; have BK1374 := Yt.mk (hbox); have GW1374 := Yt.mk ((by rw [hg]; exact (Zk (Qa0)) : w.heap.size ≤ gb1374)); have GE1374 := Yt.mk ((by rw [hg]; exact (Zk (Qa0)) : w.heap.size ≤ gb1374)); replace HB := Yt.mk (Zm (Qa0) hb); clear hb hbox hg) | ((with_reducible refine Zr (f := 47) rfl ?_); refine Yg (some 13) rfl rfl Try.func47 Qa7 rfl #[] rfl Qa2 ?_; (with_reducible refine (w2_wakes.calls k  true _ A3.out).mono ?_); rintro e w15 ⟨rfl, hb⟩; refine ⟨_, rfl, ?_⟩; replace BK1374 := Yt.mk (Zq (g := gb1374) (o := .cells #[.bool a0_0, .slice A0_1 l0_1.length c0_1, .slice A0_2 l0_2.length c0_2] 50 (0, 0)) (Qr12 BK1374.out) hb); replace HB := Yt.mk (Zm (Qa0) hb); (try clear hb); have hcz16_0 : w15.cell? ⟨gb1374, 0, none⟩ = some (.bool a0_0) := (Zl BK1374.out 0).trans rfl; have hcz16_1 : w15.cell? ⟨gb1374, 1, none⟩ = some (.slice A0_1 l0_1.length c0_1) := (Zl BK1374.out 1).trans rfl; have hcz16_2 : w15.cell? ⟨gb1374, 2, none⟩ = some (.slice A0_2 l0_2.length c0_2) := (Zl BK1374.out 2).trans rfl; have hfz16_0 := Zn BK1374.out 0; have hfz16_1 := Zn BK1374.out 1; have hfz16_2 := Zn BK1374.out 2) | ((with_reducible refine Zr (f := 51) rfl ?_); refine Yg (some 17) rfl rfl Try.func51 Qa7 rfl #[.agg #[.bool a0_0, .slice A0_1 l0_1.length c0_1, .slice A0_2 l0_2.length c0_2]] rfl Qa2 ?_; (with_reducible refine (w2_own.calls a0_0 _ _ l0_1 _ _ l0_2 t1376 t1377 t1380 _ ?side1 ?side2 ?side3 ?side4 A5.out).mono ?_); (case side1 => exact Qe9 (Kd.Ys HR0_1.out HB.out)); (case side2 => exact HC0_1.out); (case side3 => exact Qe9 (Kd.Ys HR0_2.out HB.out)); (case side4 => exact HC0_2.out); rintro e w17 ⟨v1378, v1381, rfl, ho0, ho1, hb⟩; refine ⟨_, rfl, ?_⟩; have HO1379 := Yt.mk (Kd.Yb ho0 (Zk (Qa0))); have HO1382 := Yt.mk (Kd.Yb ho1 (Zk (Qa0))); replace BK1374 := Yt.mk (Zq (g := gb1374) (o := .cells #[.bool a0_0, .slice A0_1 l0_1.length c0_1, .slice A0_2 l0_2.length c0_2] 50 (0, 0)) (Qr12 BK1374.out) hb); replace HB := Yt.mk (Zm (Qa0) hb); (try clear hb); (try clear ho0); (try clear ho1); obtain ⟨Ao18, co18, eo18⟩ := Kd.Zx HO1379.out; subst eo18; obtain ⟨Ao19, co19, eo19⟩ := Kd.Zx HO1382.out; subst eo19) | ((with_reducible refine Zr (f := 57) rfl ?_); refine Yg (some 18) rfl rfl Try.func57 Qa7 rfl #[.agg #[.bool t1376, .slice Ao18 t1377.length co18, .slice Ao19 t1380.length co19]] rfl Qa2 ?_; (with_reducible refine (ratio_Text.calls k t1376 _ _ t1377 _ _ t1380 t1383 t1384 _ ?side1 ?side2 ?side3 ?side4 A6.out).mono ?_); (case side1 => exact Qe9 (Kd.Zs HO1379.out).2.2); (case side2 => exact (Kd.Zs HO1379.out).2.1); (case side3 => exact Qe9 (Kd.Zs HO1382.out).2.2); (case side4 => exact (Kd.Zs HO1382.out).2.1); rintro e w20 ⟨rfl, hb⟩; refine ⟨_, rfl, ?_⟩; replace HO1379 := Yt.mk (Kd.Yd (Qr1 HO1379.out) hb); replace HO1382 := Yt.mk (Kd.Yd (Qr1 HO1382.out) hb); replace BK1374 := Yt.mk (Zq (g := gb1374) (o := .cells #[.bool a0_0, .slice A0_1 l0_1.length c0_1, .slice A0_2 l0_2.length c0_2] 50 (0, 0)) (Qr12 BK1374.out) hb); replace HB := Yt.mk (Zm (Qa0) hb); (try clear hb); have hcz21_0 : w20.cell? ⟨gb1374, 0, none⟩ = some (.bool a0_0) := (Zl BK1374.out 0).trans rfl; have hcz21_1 : w20.cell? ⟨gb1374, 1, none⟩ = some (.slice A0_1 l0_1.length c0_1) := (Zl BK1374.out 1).trans rfl; have hcz21_2 : w20.cell? ⟨gb1374, 2, none⟩ = some (.slice A0_2 l0_2.length c0_2) := (Zl BK1374.out 2).trans rfl; have hfz21_0 := Zn BK1374.out 0; have hfz21_1 := Zn BK1374.out 1; have hfz21_2 := Zn BK1374.out 2) | ((with_reducible refine Zr (f := 58) rfl ?_); refine Yg (some 23) rfl rfl Try.func58 Qa7 rfl #[.agg #[.bool a0_0, .slice A0_1 l0_1.length c0_1, .slice A0_2 l0_2.length c0_2]] rfl Qa2 ?_; (with_reducible refine (r2_Text.calls k a0_0 _ _ l0_1 _ _ l0_2 t1385 t1386 _ ?side1 ?side2 ?side3 ?side4 A7.out).mono ?_); (case side1 => exact Qe9 (Kd.Ys HR0_1.out HB.out)); (case side2 => exact HC0_1.out); (case side3 => exact Qe9 (Kd.Ys HR0_2.out HB.out)); (case side4 => exact HC0_2.out); rintro e w22 ⟨rfl, hb⟩; refine ⟨_, rfl, ?_⟩; replace HO1379 := Yt.mk (Kd.Yd (Qr1 HO1379.out) hb); replace HO1382 := Yt.mk (Kd.Yd (Qr1 HO1382.out) hb); replace BK1374 := Yt.mk (Zq (g := gb1374) (o := .cells #[.bool a0_0, .slice A0_1 l0_1.length c0_1, .slice A0_2 l0_2.length c0_2] 50 (0, 0)) (Qr12 BK1374.out) hb); replace HB := Yt.mk (Zm (Qa0) hb); (try clear hb)) | ((with_reducible refine Zr (f := 59) rfl ?_); refine Yg (some 28) rfl rfl Try.func59 Qa7 rfl #[.string a1] rfl Qa2 ?_; (with_reducible refine (ratio_Read.calls k a1 t1387 t1388 t1391 t1394 _ A8.out).mono ?_); rintro e w23 ⟨v1389, v1392, rfl, ho0, ho1, hb⟩; refine ⟨_, rfl, ?_⟩; have HO1390 := Yt.mk (Kd.Yb (Kd.Ya (Kd.Ya ho0 (Kd.R_lt (Qr1 HO1379.out))) (Kd.R_lt (Qr1 HO1382.out))) (Zk (Qa0))); have HO1393 := Yt.mk (Kd.Yb (Kd.Ya (Kd.Ya ho1 (Kd.R_lt (Qr1 HO1379.out))) (Kd.R_lt (Qr1 HO1382.out))) (Zk (Qa0))); replace HO1379 := Yt.mk (Kd.Zv (Kd.Yl (Kd.Yl (Kd.R_old (Qr1 HO1379.out) hb) (Kd.Zw ho0)) (Kd.Zw ho1)) (fun _ h_ => h_.1)); replace HO1382 := Yt.mk (Kd.Zv (Kd.Yl (Kd.Yl (Kd.R_old (Qr1 HO1382.out) hb) (Kd.Zw ho0)) (Kd.Zw ho1)) (fun _ h_ => h_.1)); replace BK1374 := Yt.mk (Zq (g := gb1374) (o := .cells #[.bool a0_0, .slice A0_1 l0_1.length c0_1, .slice A0_2 l0_2.length c0_2] 50 (0, 0)) (Qr12 BK1374.out) hb); replace HB := Yt.mk (Zm (Qa0) hb); (try clear hb); (try clear ho0); (try clear ho1)) | ((with_reducible refine Yk (N := 9) rfl ?_); refine Yo ?hg (N := 9) ?hd (cs := #[.bool false, .slice none 0 0, .slice none 0 0]) (t := 50) ?hr ?_; (case hd => rfl); (case hg => rfl); (case hr => exact Qa8); intro gb1395 hg w24 hbox hb; replace HO1379 := Yt.mk (Kd.Yd (Qr1 HO1379.out) hb); replace HO1382 := Yt.mk (Kd.Yd (Qr1 HO1382.out) hb); replace HO1390 := Yt.mk (Kd.Yd (Qr1 HO1390.out) hb); replace HO1393 := Yt.mk (Kd.Yd (Qr1 HO1393.out) hb); have BK1395 := Yt.mk (hbox); have GW1395 := Yt.mk ((by rw [hg]; exact (Zk (Qa0)) : w.heap.size ≤ gb1395)); have GE1395 := Yt.mk ((by rw [hg]; exact (Zk (Qa0)) : w.heap.size ≤ gb1395)); replace HB := Yt.mk (Zm (Qa0) hb); have NB1374_1395 := Yt.mk ((by rw [hg]; exact Nat.ne_of_lt (blk_lt (g := gb1374) (o := .cells #[.bool a0_0, .slice A0_1 l0_1.length c0_1, .slice A0_2 l0_2.length c0_2] 50 (0, 0)) (Qr12 BK1374.out)) : gb1374 ≠ gb1395)); have NB1395_1374 := Yt.mk ((by rw [hg]; exact Nat.ne_of_gt (blk_lt (g := gb1374) (o := .cells #[.bool a0_0, .slice A0_1 l0_1.length c0_1, .slice A0_2 l0_2.length c0_2] 50 (0, 0)) (Qr12 BK1374.out)) : gb1395 ≠ gb1374)); replace BK1374 := Yt.mk (Zq (g := gb1374) (o := .cells #[.bool a0_0, .slice A0_1 l0_1.length c0_1, .slice A0_2 l0_2.length c0_2] 50 (0, 0)) (Qr12 BK1374.out) hb); clear hb hbox hg; have hnb25 := NB1395_1374.out; have hnc25 := NB1374_1395.out; have hcz26_0 : w24.cell? ⟨gb1395, 0, none⟩ = some (.bool false) := (Zl BK1395.out 0).trans rfl; have hcz26_1 : w24.cell? ⟨gb1395, 1, none⟩ = some (.slice none 0 0) := (Zl BK1395.out 1).trans rfl; have hcz26_2 : w24.cell? ⟨gb1395, 2, none⟩ = some (.slice none 0 0) := (Zl BK1395.out 2).trans rfl; have hfz26_0 := Zn BK1395.out 0; have hfz26_1 := Zn BK1395.out 1; have hfz26_2 := Zn BK1395.out 2; obtain ⟨Ao27, co27, eo27⟩ := Kd.Zx HO1390.out; subst eo27; obtain ⟨Ao28, co28, eo28⟩ := Kd.Zx HO1393.out; subst eo28) | ((with_reducible refine Zr (f := 60) rfl ?_); refine Yg (some 33) rfl rfl Try.func60 Qa7 rfl #[.string a1] rfl Qa2 ?_; (with_reducible refine (r2_Read.calls k a1 t1396 t1397 t1400 t1403 _ A9.out).mono ?_); rintro e w29 ⟨v1398, v1401, rfl, ho0, ho1, hb⟩; refine ⟨_, rfl, ?_⟩; have HO1399 := Yt.mk (Kd.Yb (Kd.Ya (Kd.Ya (Kd.Ya (Kd.Ya ho0 (Kd.R_lt (by (with_reducible repeat (first | apply Kd.Zf | apply Kd.Ze | apply Kd.Zj)); exact (Kd.Zv (Kd.Yh (p := ⟨gb1395, 2, none⟩) (Kd.Yh (p := ⟨gb1395, 1, none⟩) (Kd.Yh (p := ⟨gb1395, 0, none⟩) (Kd.Yq HO1379.out BK1395.out (by decide)) (fun _ hk => hk.2) (.bool t1387)) (fun _ hk => hk.2) (.slice Ao27 t1388.length co27)) (fun _ hk => hk.2) (.slice Ao28 t1391.length co28)) (fun _ h_ => h_.1))))) (Kd.R_lt (by (with_reducible repeat (first | apply Kd.Zf | apply Kd.Ze | apply Kd.Zj)); exact (Kd.Zv (Kd.Yh (p := ⟨gb1395, 2, none⟩) (Kd.Yh (p := ⟨gb1395, 1, none⟩) (Kd.Yh (p := ⟨gb1395, 0, none⟩) (Kd.Yq HO1382.out BK1395.out (by decide)) (fun _ hk => hk.2) (.bool t1387)) (fun _ hk => hk.2) (.slice Ao27 t1388.length co27)) (fun _ hk => hk.2) (.slice Ao28 t1391.length co28)) (fun _ h_ => h_.1))))) (Kd.R_lt (by (with_reducible repeat (first | apply Kd.Zf | apply Kd.Ze | apply Kd.Zj)); exact (Kd.Zv (Kd.Yh (p := ⟨gb1395, 2, none⟩) (Kd.Yh (p := ⟨gb1395, 1, none⟩) (Kd.Yh (p := ⟨gb1395, 0, none⟩) (Kd.Yq HO1390.out BK1395.out (by decide)) (fun _ hk => hk.2) (.bool t1387)) (fun _ hk => hk.2) (.slice Ao27 t1388.length co27)) (fun _ hk => hk.2) (.slice Ao28 t1391.length co28)) (fun _ h_ => h_.1))))) (Kd.R_lt (by (with_reducible repeat (first | apply Kd.Zf | apply Kd.Ze | apply Kd.Zj)); exact (Kd.Zv (Kd.Yh (p := ⟨gb1395, 2, none⟩) (Kd.Yh (p := ⟨gb1395, 1, none⟩) (Kd.Yh (p := ⟨gb1395, 0, none⟩) (Kd.Yq HO1393.out BK1395.out (by decide)) (fun _ hk => hk.2) (.bool t1387)) (fun _ hk => hk.2) (.slice Ao27 t1388.length co27)) (fun _ hk => hk.2) (.slice Ao28 t1391.length co28)) (fun _ h_ => h_.1))))) (Zk (Qa0))); have HO1402 := Yt.mk (Kd.Yb (Kd.Ya (Kd.Ya (Kd.Ya (Kd.Ya ho1 (Kd.R_lt (by (with_reducible repeat (first | apply Kd.Zf | apply Kd.Ze | apply Kd.Zj)); exact (Kd.Zv (Kd.Yh (p := ⟨gb1395, 2, none⟩) (Kd.Yh (p := ⟨gb1395, 1, none⟩) (Kd.Yh (p := ⟨gb1395, 0, none⟩) (Kd.Yq HO1379.out BK1395.out (by decide)) (fun _ hk => hk.2) (.bool t1387)) (fun _ hk => hk.2) (.slice Ao27 t1388.length co27)) (fun _ hk => hk.2) (.slice Ao28 t1391.length co28)) (fun _ h_ => h_.1))))) (Kd.R_lt (by (with_reducible repeat (first | apply Kd.Zf | apply Kd.Ze | apply Kd.Zj)); exact (Kd.Zv (Kd.Yh (p := ⟨gb1395, 2, none⟩) (Kd.Yh (p := ⟨gb1395, 1, none⟩) (Kd.Yh (p := ⟨gb1395, 0, none⟩) (Kd.Yq HO1382.out BK1395.out (by decide)) (fun _ hk => hk.2) (.bool t1387)) (fun _ hk => hk.2) (.slice Ao27 t1388.length co27)) (fun _ hk => hk.2) (.slice Ao28 t1391.length co28)) (fun _ h_ => h_.1))))) (Kd.R_lt (by (with_reducible repeat (first | apply Kd.Zf | apply Kd.Ze | apply Kd.Zj)); exact (Kd.Zv (Kd.Yh (p := ⟨gb1395, 2, none⟩) (Kd.Yh (p := ⟨gb1395, 1, none⟩) (Kd.Yh (p := ⟨gb1395, 0, none⟩) (Kd.Yq HO1390.out BK1395.out (by decide)) (fun _ hk => hk.2) (.bool t1387)) (fun _ hk => hk.2) (.slice Ao27 t1388.length co27)) (fun _ hk => hk.2) (.slice Ao28 t1391.length co28)) (fun _ h_ => h_.1))))) (Kd.R_lt (by (with_reducible repeat (first | apply Kd.Zf | apply Kd.Ze | apply Kd.Zj)); exact (Kd.Zv (Kd.Yh (p := ⟨gb1395, 2, none⟩) (Kd.Yh (p := ⟨gb1395, 1, none⟩) (Kd.Yh (p := ⟨gb1395, 0, none⟩) (Kd.Yq HO1393.out BK1395.out (by decide)) (fun _ hk => hk.2) (.bool t1387)) (fun _ hk => hk.2) (.slice Ao27 t1388.length co27)) (fun _ hk => hk.2) (.slice Ao28 t1391.length co28)) (fun _ h_ => h_.1))))) (Zk (Qa0))); replace HO1379 := Yt.mk (Kd.Zv (Kd.Yl (Kd.Yl (Kd.R_old (by (with_reducible repeat (first | apply Kd.Zf | apply Kd.Ze | apply Kd.Zj)); exact (Kd.Zv (Kd.Yh (p := ⟨gb1395, 2, none⟩) (Kd.Yh (p := ⟨gb1395, 1, none⟩) (Kd.Yh (p := ⟨gb1395, 0, none⟩) (Kd.Yq HO1379.out BK1395.out (by decide)) (fun _ hk => hk.2) (.bool t1387)) (fun _ hk => hk.2) (.slice Ao27 t1388.length co27)) (fun _ hk => hk.2) (.slice Ao28 t1391.length co28)) (fun _ h_ => h_.1))) hb) (Kd.Zw ho0)) (Kd.Zw ho1)) (fun _ h_ => h_.1)); replace HO1382 := Yt.mk (Kd.Zv (Kd.Yl (Kd.Yl (Kd.R_old (by (with_reducible repeat (first | apply Kd.Zf | apply Kd.Ze | apply Kd.Zj)); exact (Kd.Zv (Kd.Yh (p := ⟨gb1395, 2, none⟩) (Kd.Yh (p := ⟨gb1395, 1, none⟩) (Kd.Yh (p := ⟨gb1395, 0, none⟩) (Kd.Yq HO1382.out BK1395.out (by decide)) (fun _ hk => hk.2) (.bool t1387)) (fun _ hk => hk.2) (.slice Ao27 t1388.length co27)) (fun _ hk => hk.2) (.slice Ao28 t1391.length co28)) (fun _ h_ => h_.1))) hb) (Kd.Zw ho0)) (Kd.Zw ho1)) (fun _ h_ => h_.1)); replace HO1390 := Yt.mk (Kd.Zv (Kd.Yl (Kd.Yl (Kd.R_old (by (with_reducible repeat (first | apply Kd.Zf | apply Kd.Ze | apply Kd.Zj)); exact (Kd.Zv (Kd.Yh (p := ⟨gb1395, 2, none⟩) (Kd.Yh (p := ⟨gb1395, 1, none⟩) (Kd.Yh (p := ⟨gb1395, 0, none⟩) (Kd.Yq HO1390.out BK1395.out (by decide)) (fun _ hk => hk.2) (.bool t1387)) (fun _ hk => hk.2) (.slice Ao27 t1388.length co27)) (fun _ hk => hk.2) (.slice Ao28 t1391.length co28)) (fun _ h_ => h_.1))) hb) (Kd.Zw ho0)) (Kd.Zw ho1)) (fun _ h_ => h_.1)); replace HO1393 := Yt.mk (Kd.Zv (Kd.Yl (Kd.Yl (Kd.R_old (by (with_reducible repeat (first | apply Kd.Zf | apply Kd.Ze | apply Kd.Zj)); exact (Kd.Zv (Kd.Yh (p := ⟨gb1395, 2, none⟩) (Kd.Yh (p := ⟨gb1395, 1, none⟩) (Kd.Yh (p := ⟨gb1395, 0, none⟩) (Kd.Yq HO1393.out BK1395.out (by decide)) (fun _ hk => hk.2) (.bool t1387)) (fun _ hk => hk.2) (.slice Ao27 t1388.length co27)) (fun _ hk => hk.2) (.slice Ao28 t1391.length co28)) (fun _ h_ => h_.1))) hb) (Kd.Zw ho0)) (Kd.Zw ho1)) (fun _ h_ => h_.1)); replace BK1374 := Yt.mk (Zq (g := gb1374) (o := .cells #[.bool a0_0, .slice A0_1 l0_1.length c0_1, .slice A0_2 l0_2.length c0_2] 50 (0, 0)) (by (with_reducible repeat (first | refine Zg ?_ _ | refine Zi ?_ | refine Zh ?_ _)); refine blk_far ?_ NB1374_1395.out _; (with_reducible repeat (first | refine Zg ?_ _ | refine Zi ?_ | refine Zh ?_ _)); refine blk_far ?_ NB1374_1395.out _; (with_reducible repeat (first | refine Zg ?_ _ | refine Zi ?_ | refine Zh ?_ _)); refine blk_far ?_ NB1374_1395.out _; (with_reducible repeat (first | refine Zg ?_ _ | refine Zi ?_ | refine Zh ?_ _)); exact BK1374.out) hb); replace BK1395 := Yt.mk (Zq (g := gb1395) (o := .cells #[.bool t1387, .slice Ao27 t1388.length co27, .slice Ao28 t1391.length co28] 50 (0, 0)) (by (with_reducible repeat (first | refine Zg ?_ _ | refine Zi ?_ | refine Zh ?_ _)); refine Ym (cs := #[.bool t1387, .slice Ao27 t1388.length co27, .slice none 0 0]) ?_ 2 _ rfl; (with_reducible repeat (first | refine Zg ?_ _ | refine Zi ?_ | refine Zh ?_ _)); refine Ym (cs := #[.bool t1387, .slice none 0 0, .slice none 0 0]) ?_ 1 _ rfl; (with_reducible repeat (first | refine Zg ?_ _ | refine Zi ?_ | refine Zh ?_ _)); refine Ym (cs := #[.bool false, .slice none 0 0, .slice none 0 0]) ?_ 0 _ rfl; (with_reducible repeat (first | refine Zg ?_ _ | refine Zi ?_ | refine Zh ?_ _)); exact BK1395.out) hb); replace HB := Yt.mk (Zm (Qa0) hb); (try clear hb); (try clear hb2); (try clear hk); (try clear hi); (try clear ho0); (try clear ho1)) | ((with_reducible refine Yk (N := 11) rfl ?_); refine Yo ?hg (N := 11) ?hd (cs := #[.bool false, .slice none 0 0, .slice none 0 0]) (t := 50) ?hr ?_; (case hd => rfl); (case hg => rfl); (case hr => exact Qa8); intro gb1404 hg w30 hbox hb; replace HO1379 := Yt.mk (Kd.Yd (Qr1 HO1379.out) hb); replace HO1382 := Yt.mk (Kd.Yd (Qr1 HO1382.out) hb); replace HO1390 := Yt.mk (Kd.Yd (Qr1 HO1390.out) hb); replace HO1393 := Yt.mk (Kd.Yd (Qr1 HO1393.out) hb); replace HO1399 := Yt.mk (Kd.Yd (Qr1 HO1399.out) hb); replace HO1402 := Yt.mk (Kd.Yd (Qr1 HO1402.out) hb); have BK1404 := Yt.mk (hbox); have GW1404 := Yt.mk ((by rw [hg]; exact (Zk (Qa0)) : w.heap.size ≤ gb1404)); have GE1404 := Yt.mk ((by rw [hg]; exact (Zk (Qa0)) : w.heap.size ≤ gb1404)); replace HB := Yt.mk (Zm (Qa0) hb); have NB1374_1404 := Yt.mk ((by rw [hg]; exact Nat.ne_of_lt (blk_lt (g := gb1374) (o := .cells #[.bool a0_0, .slice A0_1 l0_1.length c0_1, .slice A0_2 l0_2.length c0_2] 50 (0, 0)) (Qr12 BK1374.out)) : gb1374 ≠ gb1404)); have NB1404_1374 := Yt.mk ((by rw [hg]; exact Nat.ne_of_gt (blk_lt (g := gb1374) (o := .cells #[.bool a0_0, .slice A0_1 l0_1.length c0_1, .slice A0_2 l0_2.length c0_2] 50 (0, 0)) (Qr12 BK1374.out)) : gb1404 ≠ gb1374)); replace BK1374 := Yt.mk (Zq (g := gb1374) (o := .cells #[.bool a0_0, .slice A0_1 l0_1.length c0_1, .slice A0_2 l0_2.length c0_2] 50 (0, 0)) (Qr12 BK1374.out) hb); have NB1395_1404 := Yt.mk ((by rw [hg]; exact Nat.ne_of_lt (blk_lt (g := gb1395) (o := .cells #[.bool t1387, .slice Ao27 t1388.length co27, .slice Ao28 t1391.length co28] 50 (0, 0)) (Qr12 BK1395.out)) : gb1395 ≠ gb1404)); have NB1404_1395 := Yt.mk ((by rw [hg]; exact Nat.ne_of_gt (blk_lt (g := gb1395) (o := .cells #[.bool t1387, .slice Ao27 t1388.length co27, .slice Ao28 t1391.length co28] 50 (0, 0)) (Qr12 BK1395.out)) : gb1404 ≠ gb1395)); replace BK1395 := Yt.mk (Zq (g := gb1395) (o := .cells #[.bool t1387, .slice Ao27 t1388.length co27, .slice Ao28 t1391.length co28] 50 (0, 0)) (Qr12 BK1395.out) hb); clear hb hbox hg; have hnb31 := NB1404_1374.out; have hnc31 := NB1374_1404.out; have hnb32 := NB1404_1395.out; have hnc32 := NB1395_1404.out; have hcz33_0 : w30.cell? ⟨gb1404, 0, none⟩ = some (.bool false) := (Zl BK1404.out 0).trans rfl; have hcz33_1 : w30.cell? ⟨gb1404, 1, none⟩ = some (.slice none 0 0) := (Zl BK1404.out 1).trans rfl; have hcz33_2 : w30.cell? ⟨gb1404, 2, none⟩ = some (.slice none 0 0) := (Zl BK1404.out 2).trans rfl; have hfz33_0 := Zn BK1404.out 0; have hfz33_1 := Zn BK1404.out 1; have hfz33_2 := Zn BK1404.out 2; obtain ⟨Ao34, co34, eo34⟩ := Kd.Zx HO1399.out; subst eo34; obtain ⟨Ao35, co35, eo35⟩ := Kd.Zx HO1402.out; subst eo35; have hcz36_0 : w30.cell? ⟨gb1395, 0, none⟩ = some (.bool t1387) := (Zl BK1395.out 0).trans rfl; have hcz36_1 : w30.cell? ⟨gb1395, 1, none⟩ = some (.slice Ao27 t1388.length co27) := (Zl BK1395.out 1).trans rfl; have hcz36_2 : w30.cell? ⟨gb1395, 2, none⟩ = some (.slice Ao28 t1391.length co28) := (Zl BK1395.out 2).trans rfl; have hfz36_0 := Zn BK1395.out 0; have hfz36_1 := Zn BK1395.out 1; have hfz36_2 := Zn BK1395.out 2) | (go_at_call 54; (with_reducible refine (r2_Same.calls k t1387 _ _ t1388 _ _ t1391 t1396 _ _ t1397 _ _ t1400 true _ ?side1 ?side2 ?side3 ?side4 ?side5 ?side6 ?side7 ?side8 A12.out).mono ?_); (case side1 => refine (Kd.Zs (e := 47) (base := w.heap.size) (ok := fun k_ => ((((some k_ ≠ (.slice Ao28 t1391.length co28 : Value).ownBlock ∧ some k_ ≠ (.slice Ao18 t1377.length co18 : Value).ownBlock) ∧ some k_ ≠ (.slice Ao19 t1380.length co19 : Value).ownBlock) ∧ some k_ ≠ (.slice Ao34 t1397.length co34 : Value).ownBlock) ∧ some k_ ≠ (.slice Ao35 t1400.length co35 : Value).ownBlock)) (n := t1388.length) (c := co27) ?_).2.2; exact (by (with_reducible repeat (first | apply Kd.Zf | apply Kd.Ze | apply Kd.Zj)); exact (Kd.Zv (Kd.Yh (p := ⟨gb1404, 2, none⟩) (Kd.Yh (p := ⟨gb1404, 1, none⟩) (Kd.Yh (p := ⟨gb1404, 0, none⟩) (Kd.Yq HO1390.out BK1404.out (by decide)) (fun _ hk => hk.2) (.bool t1396)) (fun _ hk => hk.2) (.slice Ao34 t1397.length co34)) (fun _ hk => hk.2) (.slice Ao35 t1400.length co35)) (fun _ h_ => h_.1)))); (case side2 => exact (Kd.Zs HO1390.out).2.1); (case side3 => refine (Kd.Zs (e := 47) (base := w.heap.size) (ok := fun k_ => ((((some k_ ≠ (.slice Ao27 t1388.length co27 : Value).ownBlock ∧ some k_ ≠ (.slice Ao18 t1377.length co18 : Value).ownBlock) ∧ some k_ ≠ (.slice Ao19 t1380.length co19 : Value).ownBlock) ∧ some k_ ≠ (.slice Ao34 t1397.length co34 : Value).ownBlock) ∧ some k_ ≠ (.slice Ao35 t1400.length co35 : Value).ownBlock)) (n := t1391.length) (c := co28) ?_).2.2; exact (by (with_reducible repeat (first | apply Kd.Zf | apply Kd.Ze | apply Kd.Zj)); exact (Kd.Zv (Kd.Yh (p := ⟨gb1404, 2, none⟩) (Kd.Yh (p := ⟨gb1404, 1, none⟩) (Kd.Yh (p := ⟨gb1404, 0, none⟩) (Kd.Yq HO1393.out BK1404.out (by decide)) (fun _ hk => hk.2) (.bool t1396)) (fun _ hk => hk.2) (.slice Ao34 t1397.length co34)) (fun _ hk => hk.2) (.slice Ao35 t1400.length co35)) (fun _ h_ => h_.1)))); (case side4 => exact (Kd.Zs HO1393.out).2.1); (case side5 => refine (Kd.Zs (e := 47) (base := w.heap.size) (ok := fun k_ => ((((some k_ ≠ (.slice Ao35 t1400.length co35 : Value).ownBlock ∧ some k_ ≠ (.slice Ao18 t1377.length co18 : Value).ownBlock) ∧ some k_ ≠ (.slice Ao19 t1380.length co19 : Value).ownBlock) ∧ some k_ ≠ (.slice Ao27 t1388.length co27 : Value).ownBlock) ∧ some k_ ≠ (.slice Ao28 t1391.length co28 : Value).ownBlock)) (n := t1397.length) (c := co34) ?_).2.2; exact (by (with_reducible repeat (first | apply Kd.Zf | apply Kd.Ze | apply Kd.Zj)); exact (Kd.Zv (Kd.Yh (p := ⟨gb1404, 2, none⟩) (Kd.Yh (p := ⟨gb1404, 1, none⟩) (Kd.Yh (p := ⟨gb1404, 0, none⟩) (Kd.Yq HO1399.out BK1404.out (by decide)) (fun _ hk => hk.2) (.bool t1396)) (fun _ hk => hk.2) (.slice Ao34 t1397.length co34)) (fun _ hk => hk.2) (.slice Ao35 t1400.length co35)) (fun _ h_ => h_.1)))); (case side6 => exact (Kd.Zs HO1399.out).2.1); (case side7 => refine (Kd.Zs (e := 47) (base := w.heap.size) (ok := fun k_ => ((((some k_ ≠ (.slice Ao34 t1397.length co34 : Value).ownBlock ∧ some k_ ≠ (.slice Ao18 t1377.length co18 : Value).ownBlock) ∧ some k_ ≠ (.slice Ao19 t1380.length co19 : Value).ownBlock) ∧ some k_ ≠ (.slice Ao27 t1388.length co27 : Value).ownBlock) ∧ some k_ ≠ (.slice Ao28 t1391.length co28 : Value).ownBlock)) (n := t1400.length) (c := co35) ?_).2.2; exact (by (with_reducible repeat (first | apply Kd.Zf | apply Kd.Ze | apply Kd.Zj)); exact (Kd.Zv (Kd.Yh (p := ⟨gb1404, 2, none⟩) (Kd.Yh (p := ⟨gb1404, 1, none⟩) (Kd.Yh (p := ⟨gb1404, 0, none⟩) (Kd.Yq HO1402.out BK1404.out (by decide)) (fun _ hk => hk.2) (.bool t1396)) (fun _ hk => hk.2) (.slice Ao34 t1397.length co34)) (fun _ hk => hk.2) (.slice Ao35 t1400.length co35)) (fun _ h_ => h_.1)))); (case side8 => exact (Kd.Zs HO1402.out).2.1); rintro e w37 ⟨rfl, hb⟩; replace HO1379 := Yt.mk (Kd.Yd (by (with_reducible repeat (first | apply Kd.Zf | apply Kd.Ze | apply Kd.Zj)); exact (Kd.Zv (Kd.Yh (p := ⟨gb1404, 2, none⟩) (Kd.Yh (p := ⟨gb1404, 1, none⟩) (Kd.Yh (p := ⟨gb1404, 0, none⟩) (Kd.Yq HO1379.out BK1404.out (by decide)) (fun _ hk => hk.2) (.bool t1396)) (fun _ hk => hk.2) (.slice Ao34 t1397.length co34)) (fun _ hk => hk.2) (.slice Ao35 t1400.length co35)) (fun _ h_ => h_.1))) hb); replace HO1382 := Yt.mk (Kd.Yd (by (with_reducible repeat (first | apply Kd.Zf | apply Kd.Ze | apply Kd.Zj)); exact (Kd.Zv (Kd.Yh (p := ⟨gb1404, 2, none⟩) (Kd.Yh (p := ⟨gb1404, 1, none⟩) (Kd.Yh (p := ⟨gb1404, 0, none⟩) (Kd.Yq HO1382.out BK1404.out (by decide)) (fun _ hk => hk.2) (.bool t1396)) (fun _ hk => hk.2) (.slice Ao34 t1397.length co34)) (fun _ hk => hk.2) (.slice Ao35 t1400.length co35)) (fun _ h_ => h_.1))) hb); replace HO1390 := Yt.mk (Kd.Yd (by (with_reducible repeat (first | apply Kd.Zf | apply Kd.Ze | apply Kd.Zj)); exact (Kd.Zv (Kd.Yh (p := ⟨gb1404, 2, none⟩) (Kd.Yh (p := ⟨gb1404, 1, none⟩) (Kd.Yh (p := ⟨gb1404, 0, none⟩) (Kd.Yq HO1390.out BK1404.out (by decide)) (fun _ hk => hk.2) (.bool t1396)) (fun _ hk => hk.2) (.slice Ao34 t1397.length co34)) (fun _ hk => hk.2) (.slice Ao35 t1400.length co35)) (fun _ h_ => h_.1))) hb); replace HO1393 := Yt.mk (Kd.Yd (by (with_reducible repeat (first | apply Kd.Zf | apply Kd.Ze | apply Kd.Zj)); exact (Kd.Zv (Kd.Yh (p := ⟨gb1404, 2, none⟩) (Kd.Yh (p := ⟨gb1404, 1, none⟩) (Kd.Yh (p := ⟨gb1404, 0, none⟩) (Kd.Yq HO1393.out BK1404.out (by decide)) (fun _ hk => hk.2) (.bool t1396)) (fun _ hk => hk.2) (.slice Ao34 t1397.length co34)) (fun _ hk => hk.2) (.slice Ao35 t1400.length co35)) (fun _ h_ => h_.1))) hb); replace HO1399 := Yt.mk (Kd.Yd (by (with_reducible repeat (first | apply Kd.Zf | apply Kd.Ze | apply Kd.Zj)); exact (Kd.Zv (Kd.Yh (p := ⟨gb1404, 2, none⟩) (Kd.Yh (p := ⟨gb1404, 1, none⟩) (Kd.Yh (p := ⟨gb1404, 0, none⟩) (Kd.Yq HO1399.out BK1404.out (by decide)) (fun _ hk => hk.2) (.bool t1396)) (fun _ hk => hk.2) (.slice Ao34 t1397.length co34)) (fun _ hk => hk.2) (.slice Ao35 t1400.length co35)) (fun _ h_ => h_.1))) hb); replace HO1402 := Yt.mk (Kd.Yd (by (with_reducible repeat (first | apply Kd.Zf | apply Kd.Ze | apply Kd.Zj)); exact (Kd.Zv (Kd.Yh (p := ⟨gb1404, 2, none⟩) (Kd.Yh (p := ⟨gb1404, 1, none⟩) (Kd.Yh (p := ⟨gb1404, 0, none⟩) (Kd.Yq HO1402.out BK1404.out (by decide)) (fun _ hk => hk.2) (.bool t1396)) (fun _ hk => hk.2) (.slice Ao34 t1397.length co34)) (fun _ hk => hk.2) (.slice Ao35 t1400.length co35)) (fun _ h_ => h_.1))) hb); replace BK1374 := Yt.mk (Zq (g := gb1374) (o := .cells #[.bool a0_0, .slice A0_1 l0_1.length c0_1, .slice A0_2 l0_2.length c0_2] 50 (0, 0)) (by (with_reducible repeat (first | refine Zg ?_ _ | refine Zi ?_ | refine Zh ?_ _)); refine blk_far ?_ NB1374_1404.out _; (with_reducible repeat (first | refine Zg ?_ _ | refine Zi ?_ | refine Zh ?_ _)); refine blk_far ?_ NB1374_1404.out _; (with_reducible repeat (first | refine Zg ?_ _ | refine Zi ?_ | refine Zh ?_ _)); refine blk_far ?_ NB1374_1404.out _; (with_reducible repeat (first | refine Zg ?_ _ | refine Zi ?_ | refine Zh ?_ _)); exact BK1374.out) hb); replace BK1395 := Yt.mk (Zq (g := gb1395) (o := .cells #[.bool t1387, .slice Ao27 t1388.length co27, .slice Ao28 t1391.length co28] 50 (0, 0)) (by (with_reducible repeat (first | refine Zg ?_ _ | refine Zi ?_ | refine Zh ?_ _)); refine blk_far ?_ NB1395_1404.out _; (with_reducible repeat (first | refine Zg ?_ _ | refine Zi ?_ | refine Zh ?_ _)); refine blk_far ?_ NB1395_1404.out _; (with_reducible repeat (first | refine Zg ?_ _ | refine Zi ?_ | refine Zh ?_ _)); refine blk_far ?_ NB1395_1404.out _; (with_reducible repeat (first | refine Zg ?_ _ | refine Zi ?_ | refine Zh ?_ _)); exact BK1395.out) hb); replace BK1404 := Yt.mk (Zq (g := gb1404) (o := .cells #[.bool t1396, .slice Ao34 t1397.length co34, .slice Ao35 t1400.length co35] 50 (0, 0)) (by (with_reducible repeat (first | refine Zg ?_ _ | refine Zi ?_ | refine Zh ?_ _)); refine Ym (cs := #[.bool t1396, .slice Ao34 t1397.length co34, .slice none 0 0]) ?_ 2 _ rfl; (with_reducible repeat (first | refine Zg ?_ _ | refine Zi ?_ | refine Zh ?_ _)); refine Ym (cs := #[.bool t1396, .slice none 0 0, .slice none 0 0]) ?_ 1 _ rfl; (with_reducible repeat (first | refine Zg ?_ _ | refine Zi ?_ | refine Zh ?_ _)); refine Ym (cs := #[.bool false, .slice none 0 0, .slice none 0 0]) ?_ 0 _ rfl; (with_reducible repeat (first | refine Zg ?_ _ | refine Zi ?_ | refine Zh ?_ _)); exact BK1404.out) hb); replace HB := Yt.mk (Zm (Qa0) hb); (try clear hb); (try clear hk)))
 go_ret
 exact ⟨Qa4, Qa0⟩
end Go.Proofs.Ytgffficaoioljaa.P
end
section
namespace Go.Proofs.Ytgffficaoioljaa.PlN
open Go.RowKit Go.Proofs.Ytgffficaoioljaa.P Go.Proofs.YtgffficaoioljaaW.PrintWords Go.Proofs.YtgffficaoioljaaW.PrintLast Go.Proofs.YtgffficaoioljaaW.PrintMore
theorem wakes2_at : w2_wakes.f 100 = some true := by decide +kernel
theorem wakes2 : Ev (fun k => w2_wakes.f k) true := Ev.of w2_wakes.mono wakes2_at
end Go.Proofs.Ytgffficaoioljaa.PlN
end
