import Derived.Test.YtgffficaoioljaaRk11
import Derived.Test.YtgffficaoioljaaRk17
import Derived.Test.YtgffficaoioljaaRk18
section
namespace Go.Proofs.Ytgffficaoioljaa.P
open Go.RowKit Go.Proofs.YtgffficaoioljaaW.PrintWords Go.Proofs.YtgffficaoioljaaW.PrintLast Go.Proofs.YtgffficaoioljaaW.PrintMore
attribute [local go_sem] max2_int min2_int max_two min_two max_three min_three max_four min_four
set_option linter.unusedVariables false
set_option linter.unusedSimpArgs false
set_option maxHeartbeats 8000000
set_option maxRecDepth 100000
mutual
def ratio_Read.j0 : Nat → ByteArray → Bool → Int → Bool → Option (Bool × List Int × List Int × Int)
 | 0, _, _, _, _ => none
 | k + 1, x0, x4, x5, x21 => if x21 = true then (if 0 < (x0.size : Int) then (ratio_Read.j1 k x0 ((bt x0 0) == 45) 1) else (none)) else (ratio_Read.j1 k x0 x4 x5)
def ratio_Read.j1 : Nat → ByteArray → Bool → Int → Option (Bool × List Int × List Int × Int)
 | 0, _, _, _ => none
 | k + 1, x0, x4, x5 => (ratio_natDigits.f k x0 x5).bind fun bt1063 => (if bt1063.2.2 = true then (if bt1063.2.1 < (x0.size : Int) then (if 0 ≤ bt1063.2.1 then ((ratio_class.f (bt x0 bt1063.2.1)).bind fun t1071 => (if t1071 = 3 then ((ratio_natDigits.f k x0 (wrap64 (bt1063.2.1 + 1))).bind fun bt1072 => (if bt1072.2.2 = true then (if bt1072.2.1 < (x0.size : Int) then (ratio_Read.j2 k x4 bt1063.1 bt1072.1 true) else (ratio_Read.j2 k x4 bt1063.1 bt1072.1 ((bt1072.1.length : Int) == 0))) else (ratio_Read.j2 k x4 bt1063.1 bt1072.1 true))) else (some (false, ([] : List Int), ([] : List Int), 21)))) else (none)) else (ratio_Read.j3 k x4 bt1063.1 (([1] : List Int)))) else (some (false, ([] : List Int), ([] : List Int), 21)))
def ratio_Read.j3 : Nat → Bool → List Int → List Int → Option (Bool × List Int × List Int × Int)
 | 0, _, _, _ => none
 | k + 1, x4, x6, x9 => (ratio_Make.f k x4 x6 x9).bind fun bt1077 => (some (bt1077.1, bt1077.2.1, bt1077.2.2.1, bt1077.2.2.2))
def ratio_Read.j2 : Nat → Bool → List Int → List Int → Bool → Option (Bool × List Int × List Int × Int)
 | 0, _, _, _, _ => none
 | k + 1, x4, x6, x9, x66 => if x66 = true then (some (false, ([] : List Int), ([] : List Int), 21)) else (ratio_Read.j3 k x4 x6 x9)
end
def ratio_Read.f (k : Nat) (a0 : ByteArray) : Option (Bool × List Int × List Int × Int) := if (a0.size : Int) > 4096 then (some (false, ([] : List Int), ([] : List Int), 3)) else (if a0.toList = ([] : List UInt8) then (ratio_Read.j0 k a0 false 0 false) else (if 0 < (a0.size : Int) then ((ratio_class.f (bt a0 0)).bind fun t1062 => (ratio_Read.j0 k a0 false 0 (t1062 == 1))) else (none)))
theorem ratio_Read.mono_l : ∀ k, (∀ y0 y1 y2 y3, LeO (ratio_Read.j0 k y0 y1 y2 y3) (ratio_Read.j0 (k + 1) y0 y1 y2 y3)) ∧ (∀ y0 y1 y2, LeO (ratio_Read.j1 k y0 y1 y2) (ratio_Read.j1 (k + 1) y0 y1 y2)) ∧ (∀ y0 y1 y2, LeO (ratio_Read.j3 k y0 y1 y2) (ratio_Read.j3 (k + 1) y0 y1 y2)) ∧ (∀ y0 y1 y2 y3, LeO (ratio_Read.j2 k y0 y1 y2 y3) (ratio_Read.j2 (k + 1) y0 y1 y2 y3))
 | 0 => ⟨fun _ _ _ _ r h => by simp [ratio_Read.j0] at h, fun _ _ _ r h => by simp [ratio_Read.j1] at h, fun _ _ _ r h => by simp [ratio_Read.j3] at h, fun _ _ _ _ r h => by simp [ratio_Read.j2] at h⟩
 | k + 1 => by
  obtain ⟨ih0, ih1, ih2, ih3⟩ := ratio_Read.mono_l k
  refine ⟨?_, ?_, ?_, ?_⟩
  ·intro y0 y1 y2 y3
   unfold ratio_Read.j0
   have m0 := @ratio_Make.mono
   have m1 := @ratio_natDigits.mono
   exact Qa6
  ·intro y0 y1 y2
   unfold ratio_Read.j1
   have m0 := @ratio_Make.mono
   have m1 := @ratio_natDigits.mono
   exact Qa6
  ·intro y0 y1 y2
   unfold ratio_Read.j3
   have m0 := @ratio_Make.mono
   have m1 := @ratio_natDigits.mono
   exact Qa6
  ·intro y0 y1 y2 y3
   unfold ratio_Read.j2
   have m0 := @ratio_Make.mono
   have m1 := @ratio_natDigits.mono
   exact Qa6
theorem ratio_Read.mono : ∀ a0 k, LeO (ratio_Read.f k a0) (ratio_Read.f (k + 1) a0) := by
 intro a0 k
 obtain ⟨ih0, ih1, ih2, ih3⟩ := ratio_Read.mono_l k
 unfold ratio_Read.f
 have m0 := @ratio_Make.mono
 have m1 := @ratio_natDigits.mono
 exact Qa6
theorem ratio_Read.calls (k : Nat) (a0 : ByteArray) (r1 : Bool) (r2 : List Int) (r3 : List Int) (r4 : Int) (w : World) (h : ratio_Read.f k a0 = some (r1, r2, r3, r4)) :
  Calls Try.prog 59 #[.string a0] w fun e w' => ∃ v1_ v2_ : Value, e = .returned (.tuple #[.agg #[.bool r1, v1_, v2_], .int .i64 r4]) ∧ Kd.R (Kd.int .u32) 47 w' w.heap.size (fun k_ => some k_ ≠ (v2_ : Value).ownBlock) v1_ r2 ∧ Kd.R (Kd.int .u32) 47 w' w.heap.size (fun k_ => some k_ ≠ (v1_ : Value).ownBlock) v2_ r3 ∧ Below w.heap.size w w' := by
 have hu50 := Try.underlying50
 have HB := Yt.mk (Below.refl w.heap.size w)
 unfold ratio_Read.f at h
 have H := h
 clear h
 by_cases c2 : (a0.size : Int) > 4096
 ·rw [if_pos c2] at H
  have c2b0 : decide (4096 < (a0.size : Int)) = true := decide_eq_true c2
  have c2b1 : decide (4096 < a0.size) = true := decide_eq_true (by omega)
  clear c2
  simp only [Option.some.injEq, Prod.mk.injEq] at H
  obtain ⟨rfl, rfl, rfl, rfl⟩ := H
  go_enter Try.func59, Try.ntmps59
  go_wp2_with (first | ((with_reducible refine Yk (N := 2) rfl ?_); (try (refine gate_guard (by rfl) ?_; dsimp only)); refine Yo ?hg (N := 2) ?hd (cs := #[.bool false, .slice none 0 0, .slice none 0 0]) (t := 50) ?hr ?_; (case hd => rfl); (case hg => rfl); (case hr => exact Qa9); intro gb1061 hg w3 hbox hb; have BK1061 := Yt.mk (hbox); have GW1061 := Yt.mk ((by rw [hg]; exact (Zk (Qa0)) : w.heap.size ≤ gb1061)); have GE1061 := Yt.mk ((by rw [hg]; exact (Zk (Qa0)) : w.heap.size ≤ gb1061)); replace HB := Yt.mk (Zm (Qa0) hb); clear hb hbox hg; have hcz4_0 : w3.cell? ⟨gb1061, 0, none⟩ = some (.bool false) := (Zl BK1061.out 0).trans rfl; have hcz4_1 : w3.cell? ⟨gb1061, 1, none⟩ = some (.slice none 0 0) := (Zl BK1061.out 1).trans rfl; have hcz4_2 : w3.cell? ⟨gb1061, 2, none⟩ = some (.slice none 0 0) := (Zl BK1061.out 2).trans rfl; have hfz4_0 := Zn BK1061.out 0; have hfz4_1 := Zn BK1061.out 1; have hfz4_2 := Zn BK1061.out 2))
  refine bodyPost_ret (results_ct rfl _ _ gb1061 50 #[.bool false, .slice none 0 0, .slice none 0 0] (0, 0) _ rfl (by (with_reducible repeat (first | refine Zg ?_ _ | refine Zi ?_ | refine Zh ?_ _)); refine Ym (cs := #[.bool false, .slice none 0 0, .slice none 0 0]) ?_ 2 _ rfl; (with_reducible repeat (first | refine Zg ?_ _ | refine Zi ?_ | refine Zh ?_ _)); refine Ym (cs := #[.bool false, .slice none 0 0, .slice none 0 0]) ?_ 1 _ rfl; (with_reducible repeat (first | refine Zg ?_ _ | refine Zi ?_ | refine Zh ?_ _)); refine Ym (cs := #[.bool false, .slice none 0 0, .slice none 0 0]) ?_ 0 _ rfl; (with_reducible repeat (first | refine Zg ?_ _ | refine Zi ?_ | refine Zh ?_ _)); exact BK1061.out) Try.underlying50 rfl Qa8) rfl ?_
  exact ⟨_, _, Qa4, by first | exact Kd.R_nil _ _ _ _ _ | exact Kd.N_nil _ _ _ _ _ | exact Kd.V_nil _ _ _ _ _ | exact Kd.Q_nil _ _ _ _ _ | exact Kd.S_nil _ _ _ _ _, by first | exact Kd.R_nil _ _ _ _ _ | exact Kd.N_nil _ _ _ _ _ | exact Kd.V_nil _ _ _ _ _ | exact Kd.Q_nil _ _ _ _ _ | exact Kd.S_nil _ _ _ _ _, Qa0⟩
 rw [if_neg c2] at H
 have c2b0 : decide (4096 < (a0.size : Int)) = false := decide_eq_false c2
 have c2b1 : decide (4096 < a0.size) = false := decide_eq_false (by omega)
 clear c2
 have HC5 := Yt.mk H
 clear H
 go_enter Try.func59, Try.ntmps59
 go_upto_region 4 with (first | ((with_reducible refine Yk (N := 2) rfl ?_); (try (refine gate_guard (by rfl) ?_; dsimp only)); refine Yo ?hg (N := 2) ?hd (cs := #[.bool false, .slice none 0 0, .slice none 0 0]) (t := 50) ?hr ?_; (case hd => rfl); (case hg => rfl); (case hr => exact Qa9); intro gb1061 hg w6 hbox hb; have BK1061 := Yt.mk (hbox); have GW1061 := Yt.mk ((by rw [hg]; exact (Zk (Qa0)) : w.heap.size ≤ gb1061)); have GE1061 := Yt.mk ((by rw [hg]; exact (Zk (Qa0)) : w.heap.size ≤ gb1061)); replace HB := Yt.mk (Zm (Qa0) hb); clear hb hbox hg))
 (try simp only [Act.put, List.setIfInBounds_toArray, List.set_cons_zero, List.set_cons_succ])
 go_cut [21] (fun v21 wc => ∃ (kq : Nat) (x21_4 : Bool), v21 = .bool x21_4 ∧ Yt (ratio_Read.j0 kq a0 false 0 x21_4 = some (r1, r2, r3, r4)) ∧ Yt (kq ≤ k) ∧ Yt (wc.heap[gb1061]? = some (.cells #[.bool false, (.slice none 0 0), (.slice none 0 0)] 50 (0, 0))) ∧ Yt (Below w.heap.size w wc))
 case first =>
  have H := HC5.out
  clear HC5
  by_cases c7 : a0.toList = ([] : List UInt8)
  ·rw [if_pos c7] at H
   have c7b0 : (a0.toList == ([] : List UInt8)) = true := beq_iff_eq.mpr c7
   have c7b1 : (a0.toList != ([] : List UInt8)) = false := bne_eq_false_iff_eq.mpr c7
   clear c7
   (first | rw [c7b0] | rw [c7b1] | (simp only [Yi, Yj]; rw [c7b0]) | skip)
   have H' := Yt.mk H
   clear H
   go_wp2
   go_meet
   case rel => exact ⟨_, (false), Qa5, H', ⟨by first | omega | exact Nat.le_refl _⟩, ⟨Qr12 BK1061.out⟩, ⟨Qa0⟩⟩
  rw [if_neg c7] at H
  have c7b0 : (a0.toList == ([] : List UInt8)) = false := beq_eq_false_iff_ne.mpr c7
  have c7b1 : (a0.toList != ([] : List UInt8)) = true := bne_iff_ne.mpr c7
  (first | rw [c7b0] | rw [c7b1] | (simp only [Yi, Yj]; rw [c7b0]) | skip)
  by_cases c8 : 0 < (a0.size : Int)
  rotate_left
  ·rw [if_neg c8] at H
   exact absurd H (by simp)
  rw [if_pos c8] at H
  have c8b0 : decide (0 < (a0.size : Int)) = true := decide_eq_true c8
  have c8b1 : decide (0 < a0.size) = true := decide_eq_true (by omega)
  clear c8
  replace H := Option.bind_eq_some_iff.mp H
  obtain ⟨t1062, A100, H⟩ := H
  try dsimp only at H
  have A10 := Yt.mk A100
  clear A100
  have H' := Yt.mk H
  clear H
  have p9 : 0 ≤ (0 : Int) := (by omega)
  have q9 : 0 < a0.size := (by have : (0 : Int) < (a0.size : Int) := Qd; omega)
  have hx9 : ∀ h : 0 < a0.size, ((a0[0]'h).toNat : Int) = bt a0 0 := bt_at a0 0
  clear p9
  have qi9 : (0 < (a0.size : Int)) = True := eq_true (Qd)
  replace q9 := eq_true q9
  go_wp2_with (first | (go_at_call 99; (with_reducible refine (ratio_class.calls (bt a0 0) t1062 _ A10.out).mono ?_); rintro e w11 ⟨rfl, hb⟩; replace BK1061 := Yt.mk (Zq (g := gb1061) (o := .cells #[.bool false, .slice none 0 0, .slice none 0 0] 50 (0, 0)) (Qr12 BK1061.out) hb); replace HB := Yt.mk (Zm (Qa0) hb); (try clear hb)))
  go_meet
  case rel => exact ⟨_, ((t1062 == 1)), Qa5, H', ⟨by first | omega | exact Nat.le_refl _⟩, ⟨Qr12 BK1061.out⟩, ⟨Qa0⟩⟩
 case rest =>
  clear HC5
  try clear c2; try clear c2b0; try clear c2b1; try clear p2; try clear c5; try clear c7; try clear c7b0; try clear c7b1; try clear c8; try clear c8b0; try clear c8b1; try clear p9; try clear q9; try clear hx9; try clear qi9; try clear hcz4_0; try clear hcz4_1; try clear hcz4_2; try clear hfz4_0; try clear hfz4_1; try clear hfz4_2; try clear p9; try clear q9
  obtain ⟨kq, x21_4, rfl, HA, HJ4, BK1061, HB⟩ := hcut
  cases kq with
  | zero => exact absurd HA.out (by simp [ratio_Read.j0])
  | succ kj4 =>
   have H := HA.out
   clear HA
   simp only [ratio_Read.j0] at H
   have HC12 := Yt.mk H
   clear H
   go_upto_if 21 with (fail)
   go_cut [4, 5] (fun v4 v5 wc => ∃ (kq : Nat) (x4_11 : Bool) (x5_11 : Int), v4 = .bool x4_11 ∧ v5 = .int .i64 x5_11 ∧ Yt (ratio_Read.j1 kq a0 x4_11 x5_11 = some (r1, r2, r3, r4)) ∧ Yt (kq ≤ kj4) ∧ Yt (wc.heap[gb1061]? = some (.cells #[.bool false, (.slice none 0 0), (.slice none 0 0)] 50 (0, 0))) ∧ Yt (Below w.heap.size w wc))
   case first =>
    have H := HC12.out
    clear HC12
    by_cases c13 : x21_4 = true
    rotate_left
    ·replace c13 := Bool.eq_false_iff.mpr c13
     subst c13
     rw [if_neg (show ¬ (false = true) by decide)] at H
     have H' := Yt.mk H
     clear H
     go_wp2
     go_meet
     case rel => exact ⟨_, (false), (0), Qa5, Qa5, H', ⟨by have := HJ4.out; first | omega | exact Nat.le_refl _⟩, ⟨Qr12 BK1061.out⟩, ⟨Qa0⟩⟩
    subst c13
    rw [if_pos rfl] at H
    by_cases c14 : 0 < (a0.size : Int)
    rotate_left
    ·rw [if_neg c14] at H
     exact absurd H (by simp)
    rw [if_pos c14] at H
    have c14b0 : decide (0 < (a0.size : Int)) = true := decide_eq_true c14
    have c14b1 : decide (0 < a0.size) = true := decide_eq_true (by omega)
    clear c14
    (first | rw [c14b0] | rw [c14b1] | (simp only [Yi, Yj]; rw [c14b0]) | skip)
    have H' := Yt.mk H
    clear H
    have p15 : 0 ≤ (0 : Int) := (by omega)
    have q15 : 0 < a0.size := (by have : (0 : Int) < (a0.size : Int) := Qd; omega)
    have hx15 : ∀ h : 0 < a0.size, ((a0[0]'h).toNat : Int) = bt a0 0 := bt_at a0 0
    clear p15
    have qi15 : (0 < (a0.size : Int)) = True := eq_true (Qd)
    replace q15 := eq_true q15
    go_wp2
    go_meet
    case rel => exact ⟨_, (((bt a0 0) == 45)), (1), Qa5, Qa5, H', ⟨by have := HJ4.out; first | omega | exact Nat.le_refl _⟩, ⟨Qr12 BK1061.out⟩, ⟨Qa0⟩⟩
   case rest =>
    clear HC12
    try clear c1; try clear p1; try clear q1; try clear hx1; try clear qi1; try clear c2; try clear c2b0; try clear c2b1; try clear p2; try clear c5; try clear c7; try clear c7b0; try clear c7b1; try clear c8; try clear c8b0; try clear c8b1; try clear p9; try clear q9; try clear hx9; try clear qi9; try clear c13; try clear c14; try clear c14b0; try clear c14b1; try clear p15; try clear q15; try clear hx15; try clear qi15; try clear hcz4_0; try clear hcz4_1; try clear hcz4_2; try clear hfz4_0; try clear hfz4_1; try clear hfz4_2; try clear p15; try clear p2; try clear p9; try clear q15; try clear q9
    obtain ⟨kq, x4_11, x5_11, rfl, rfl, HA, HJ11, BK1061, HB⟩ := hcut
    cases kq with
    | zero => exact absurd HA.out (by simp [ratio_Read.j1])
    | succ kj11 =>
     have H := HA.out
     clear HA
     simp only [ratio_Read.j1] at H
     replace H := Option.bind_eq_some_iff.mp H
     obtain ⟨⟨t1063, t1064, t1065⟩, A160, H⟩ := H
     try dsimp only at H
     have A16 := Yt.mk A160
     clear A160
     by_cases c17 : t1065 = true
     rotate_left
     ·replace c17 := Bool.eq_false_iff.mpr c17
      subst c17
      rw [if_neg (show ¬ (false = true) by decide)] at H
      simp only [Option.some.injEq, Prod.mk.injEq] at H
      obtain ⟨rfl, rfl, rfl, rfl⟩ := H
      go_wp2_with (first | ((with_reducible refine Zr (f := 100) rfl ?_); refine Yg (some 28) rfl rfl Try.func100 Qa8 rfl #[.string a0, .int .i64 x5_11] rfl Qa2 ?_; (with_reducible refine (ratio_natDigits.calls kj11 a0 x5_11 t1063 t1064 false _ A16.out).mono ?_); rintro e w45 ⟨v1066, rfl, ho0, hb⟩; refine ⟨_, rfl, ?_⟩; have HO1067 := Yt.mk (Kd.Yb ho0 (Zk (Qa0))); replace BK1061 := Yt.mk (Zq (g := gb1061) (o := .cells #[.bool false, .slice none 0 0, .slice none 0 0] 50 (0, 0)) (Qr12 BK1061.out) hb); replace HB := Yt.mk (Zm (Qa0) hb); (try clear hb); (try clear ho0); have hcz46_0 : w45.cell? ⟨gb1061, 0, none⟩ = some (.bool false) := (Zl BK1061.out 0).trans rfl; have hcz46_1 : w45.cell? ⟨gb1061, 1, none⟩ = some (.slice none 0 0) := (Zl BK1061.out 1).trans rfl; have hcz46_2 : w45.cell? ⟨gb1061, 2, none⟩ = some (.slice none 0 0) := (Zl BK1061.out 2).trans rfl; have hfz46_0 := Zn BK1061.out 0; have hfz46_1 := Zn BK1061.out 1; have hfz46_2 := Zn BK1061.out 2))
      refine bodyPost_ret (results_ct rfl _ _ gb1061 50 #[.bool false, .slice none 0 0, .slice none 0 0] (0, 0) _ rfl (by (with_reducible repeat (first | refine Zg ?_ _ | refine Zi ?_ | refine Zh ?_ _)); refine Ym (cs := #[.bool false, .slice none 0 0, .slice none 0 0]) ?_ 2 _ rfl; (with_reducible repeat (first | refine Zg ?_ _ | refine Zi ?_ | refine Zh ?_ _)); refine Ym (cs := #[.bool false, .slice none 0 0, .slice none 0 0]) ?_ 1 _ rfl; (with_reducible repeat (first | refine Zg ?_ _ | refine Zi ?_ | refine Zh ?_ _)); refine Ym (cs := #[.bool false, .slice none 0 0, .slice none 0 0]) ?_ 0 _ rfl; (with_reducible repeat (first | refine Zg ?_ _ | refine Zi ?_ | refine Zh ?_ _)); exact BK1061.out) Try.underlying50 rfl Qa8) rfl ?_
      exact ⟨_, _, Qa4, by first | exact Kd.R_nil _ _ _ _ _ | exact Kd.N_nil _ _ _ _ _ | exact Kd.V_nil _ _ _ _ _ | exact Kd.Q_nil _ _ _ _ _ | exact Kd.S_nil _ _ _ _ _, by first | exact Kd.R_nil _ _ _ _ _ | exact Kd.N_nil _ _ _ _ _ | exact Kd.V_nil _ _ _ _ _ | exact Kd.Q_nil _ _ _ _ _ | exact Kd.S_nil _ _ _ _ _, Qa0⟩
     subst c17
     rw [if_pos rfl] at H
     obtain ⟨y1068, hy1068⟩ : ∃ y_ : List Int, y_ = (([1] : List Int)) := ⟨_, rfl⟩
     replace H : (if t1064 < (a0.size : Int) then (if 0 ≤ t1064 then ((ratio_class.f (bt a0 t1064)).bind fun t1071 => (if t1071 = 3 then ((ratio_natDigits.f kj11 a0 (wrap64 (t1064 + 1))).bind fun bt1072 => (if bt1072.2.2 = true then (if bt1072.2.1 < (a0.size : Int) then (ratio_Read.j2 kj11 x4_11 t1063 bt1072.1 true) else (ratio_Read.j2 kj11 x4_11 t1063 bt1072.1 ((bt1072.1.length : Int) == 0))) else (ratio_Read.j2 kj11 x4_11 t1063 bt1072.1 true))) else (some (false, ([] : List Int), ([] : List Int), 21)))) else (none)) else (ratio_Read.j3 kj11 x4_11 t1063 y1068)) = some (r1, r2, r3, r4) := Qh hy1068 H
     have Ny1068 := Yt.mk hy1068
     clear hy1068
     have HC18 := Yt.mk H
     clear H
     go_upto_if 39 with (first | ((with_reducible refine Zr (f := 100) rfl ?_); refine Yg (some 28) rfl rfl Try.func100 Qa8 rfl #[.string a0, .int .i64 x5_11] rfl Qa2 ?_; (with_reducible refine (ratio_natDigits.calls kj11 a0 x5_11 t1063 t1064 true _ A16.out).mono ?_); rintro e w19 ⟨v1066, rfl, ho0, hb⟩; refine ⟨_, rfl, ?_⟩; have HO1067 := Yt.mk (Kd.Yb ho0 (Zk (Qa0))); replace BK1061 := Yt.mk (Zq (g := gb1061) (o := .cells #[.bool false, .slice none 0 0, .slice none 0 0] 50 (0, 0)) (Qr12 BK1061.out) hb); replace HB := Yt.mk (Zm (Qa0) hb); (try clear hb); (try clear ho0)) | ((with_reducible refine Yk (N := 35) rfl ?_); (try (refine gate_guard (by rfl) ?_; dsimp only)); refine Kd.R_lit (Kd.int .u32) _ 47 ?hg (N := 35) ?hd (xs := ([1] : List Int)) (inner := [.int .u32 1]) (ok := fun _ => True) (okp := fun _ => True) ?hr ?hp (fun _ hk => hk) trivial (Below.refl _ _) (Nat.le_refl _) (by simp) ?_; (case hd => rfl); (case hg => rfl); (case hr => exact Qa9); (case hp => exact (Reps.one (show Kd.M (Kd.int .u32) _ _ _ 1 [.int .u32 1] from rfl) (Reps.none _ _))); intro v1069 w20 ho21 hb hg_ hnew_; clear hg_ hnew_; (first | rw [← Ny1068.out] at ho21 | (simp only [Int.reduceToNat] at ho21; rw [← Ny1068.out] at ho21)); have HO1070 := Yt.mk (Kd.Yb (Kd.Ya ho21 (Kd.R_lt (Qr1 HO1067.out))) (Zk (Qa0))); replace HO1067 := Yt.mk (Kd.Yf (Qr1 HO1067.out) (Kd.Zw ho21) hb); replace BK1061 := Yt.mk (Zq (g := gb1061) (o := .cells #[.bool false, .slice none 0 0, .slice none 0 0] 50 (0, 0)) (Qr12 BK1061.out) hb); replace HB := Yt.mk (Zm (Qa0) hb); clear hb ho21))
     (try simp only [Act.put, List.setIfInBounds_toArray, List.set_cons_zero, List.set_cons_succ])
     go_cut [9] (fun v9 wc => ∃ (kq : Nat) (x9_17 : List Int) (x1062000_17 : Bool), Yt (ratio_Read.j3 kq x4_11 t1063 x9_17 = some (r1, r2, r3, r4)) ∧ Yt (kq ≤ kj11) ∧ Yt (Kd.R (Kd.int .u32) 47 wc w.heap.size (fun k_ => some k_ ≠ (v9 : Value).ownBlock) v1066 t1063) ∧ Yt (Kd.R (Kd.int .u32) 47 wc w.heap.size (fun k_ => some k_ ≠ (v1066 : Value).ownBlock) v9 x9_17) ∧ Yt (wc.heap[gb1061]? = some (.cells #[.bool x1062000_17, (.slice none 0 0), (.slice none 0 0)] 50 (0, 0))) ∧ Yt (Below w.heap.size w wc))
     case first =>
      have H := HC18.out
      clear HC18
      by_cases c22 : t1064 < (a0.size : Int)
      rotate_left
      ·rw [if_neg c22] at H
       have c22b0 : decide (t1064 < (a0.size : Int)) = false := decide_eq_false c22
       clear c22
       (first | rw [c22b0] | rw [c22b1] | (simp only [Yi, Yj]; rw [c22b0]) | skip)
       have H' := Yt.mk H
       clear H
       go_wp2
       go_meet
       case rel => exact ⟨_, (y1068), (false), H', ⟨by have := HJ4.out; have := HJ11.out; first | omega | exact Nat.le_refl _⟩, ⟨by (with_reducible repeat (first | apply Kd.Zf | apply Kd.Ze | apply Kd.Zj)); exact Kd.Zv HO1067.out (fun _ hk => hk.2)⟩, ⟨by (with_reducible repeat (first | apply Kd.Zf | apply Kd.Ze | apply Kd.Zj)); exact Kd.Zv HO1070.out (fun _ hk => hk.2)⟩, ⟨Qr12 BK1061.out⟩, ⟨Qa0⟩⟩
      rw [if_pos c22] at H
      have c22b0 : decide (t1064 < (a0.size : Int)) = true := decide_eq_true c22
      clear c22
      (first | rw [c22b0] | rw [c22b1] | (simp only [Yi, Yj]; rw [c22b0]) | skip)
      by_cases c23 : 0 ≤ t1064
      rotate_left
      ·rw [if_neg c23] at H
       exact absurd H (by simp)
      rw [if_pos c23] at H
      have c23b0 : decide (0 ≤ t1064) = true := decide_eq_true c23
      clear c23
      replace H := Option.bind_eq_some_iff.mp H
      obtain ⟨t1071, A250, H⟩ := H
      try dsimp only at H
      have A25 := Yt.mk A250
      clear A250
      by_cases c26 : t1071 = 3
      rotate_left
      ·rw [if_neg c26] at H
       have c26b0 : (t1071 == 3) = false := beq_eq_false_iff_ne.mpr c26
       have c26b1 : (t1071 != 3) = true := bne_iff_ne.mpr c26
       simp only [Option.some.injEq, Prod.mk.injEq] at H
       obtain ⟨rfl, rfl, rfl, rfl⟩ := H
       have p24 : 0 ≤ (t1064 : Int) := Qd
       have q24 : t1064 < (a0.size : Int) := Qd
       have hx24 := bt_at a0 t1064
       replace p24 := eq_true p24
       replace q24 := eq_true q24
       go_wp2_with (first | ((with_reducible refine Zr (f := 99) rfl ?_); refine Yg (some 43) rfl rfl Try.func99 Qa8 rfl #[.int .u8 (bt a0 t1064)] rfl Qa2 ?_; (with_reducible refine (ratio_class.calls (bt a0 t1064) t1071 _ A25.out).mono ?_); rintro e w36 ⟨rfl, hb⟩; refine ⟨_, rfl, ?_⟩; replace HO1067 := Yt.mk (Kd.Yd (Qr1 HO1067.out) hb); replace HO1070 := Yt.mk (Kd.Yd (Qr1 HO1070.out) hb); replace BK1061 := Yt.mk (Zq (g := gb1061) (o := .cells #[.bool false, .slice none 0 0, .slice none 0 0] 50 (0, 0)) (Qr12 BK1061.out) hb); replace HB := Yt.mk (Zm (Qa0) hb); (try clear hb); have hcz37_0 : w36.cell? ⟨gb1061, 0, none⟩ = some (.bool false) := (Zl BK1061.out 0).trans rfl; have hcz37_1 : w36.cell? ⟨gb1061, 1, none⟩ = some (.slice none 0 0) := (Zl BK1061.out 1).trans rfl; have hcz37_2 : w36.cell? ⟨gb1061, 2, none⟩ = some (.slice none 0 0) := (Zl BK1061.out 2).trans rfl; have hfz37_0 := Zn BK1061.out 0; have hfz37_1 := Zn BK1061.out 1; have hfz37_2 := Zn BK1061.out 2))
       refine bodyPost_ret (results_ct rfl _ _ gb1061 50 #[.bool false, .slice none 0 0, .slice none 0 0] (0, 0) _ rfl (by (with_reducible repeat (first | refine Zg ?_ _ | refine Zi ?_ | refine Zh ?_ _)); refine Ym (cs := #[.bool false, .slice none 0 0, .slice none 0 0]) ?_ 2 _ rfl; (with_reducible repeat (first | refine Zg ?_ _ | refine Zi ?_ | refine Zh ?_ _)); refine Ym (cs := #[.bool false, .slice none 0 0, .slice none 0 0]) ?_ 1 _ rfl; (with_reducible repeat (first | refine Zg ?_ _ | refine Zi ?_ | refine Zh ?_ _)); refine Ym (cs := #[.bool false, .slice none 0 0, .slice none 0 0]) ?_ 0 _ rfl; (with_reducible repeat (first | refine Zg ?_ _ | refine Zi ?_ | refine Zh ?_ _)); exact BK1061.out) Try.underlying50 rfl Qa8) rfl ?_
       exact ⟨_, _, Qa4, by first | exact Kd.R_nil _ _ _ _ _ | exact Kd.N_nil _ _ _ _ _ | exact Kd.V_nil _ _ _ _ _ | exact Kd.Q_nil _ _ _ _ _ | exact Kd.S_nil _ _ _ _ _, by first | exact Kd.R_nil _ _ _ _ _ | exact Kd.N_nil _ _ _ _ _ | exact Kd.V_nil _ _ _ _ _ | exact Kd.Q_nil _ _ _ _ _ | exact Kd.S_nil _ _ _ _ _, Qa0⟩
      rw [if_pos c26] at H
      have c26b0 : (t1071 == 3) = true := beq_iff_eq.mpr c26
      have c26b1 : (t1071 != 3) = false := bne_eq_false_iff_eq.mpr c26
      clear c26
      replace H := Option.bind_eq_some_iff.mp H
      obtain ⟨⟨t1072, t1073, t1074⟩, A270, H⟩ := H
      try dsimp only at H
      have A27 := Yt.mk A270
      clear A270
      have HC28 := Yt.mk H
      clear H
      have p24 : 0 ≤ (t1064 : Int) := Qd
      have q24 : t1064 < (a0.size : Int) := Qd
      have hx24 := bt_at a0 t1064
      replace p24 := eq_true p24
      replace q24 := eq_true q24
      go_upto_region 14 with (first | ((with_reducible refine Zr (f := 99) rfl ?_); refine Yg (some 43) rfl rfl Try.func99 Qa8 rfl #[.int .u8 (bt a0 t1064)] rfl Qa2 ?_; (with_reducible refine (ratio_class.calls (bt a0 t1064) t1071 _ A25.out).mono ?_); rintro e w29 ⟨rfl, hb⟩; refine ⟨_, rfl, ?_⟩; replace HO1067 := Yt.mk (Kd.Yd (Qr1 HO1067.out) hb); replace HO1070 := Yt.mk (Kd.Yd (Qr1 HO1070.out) hb); replace BK1061 := Yt.mk (Zq (g := gb1061) (o := .cells #[.bool false, .slice none 0 0, .slice none 0 0] 50 (0, 0)) (Qr12 BK1061.out) hb); replace HB := Yt.mk (Zm (Qa0) hb); (try clear hb)) | ((with_reducible refine Zr (f := 100) rfl ?_); refine Yg (some 50) rfl rfl Try.func100 Qa8 rfl #[.string a0, .int .i64 (wrap64 (t1064 + 1))] rfl Qa2 ?_; (with_reducible refine (ratio_natDigits.calls kj11 a0 (wrap64 (t1064 + 1)) t1072 t1073 t1074 _ A27.out).mono ?_); rintro e w30 ⟨v1075, rfl, ho0, hb⟩; refine ⟨_, rfl, ?_⟩; have HO1076 := Yt.mk (Kd.Yb (Kd.Ya (Kd.Ya ho0 (Kd.R_lt (Qr1 HO1067.out))) (Kd.R_lt (Qr1 HO1070.out))) (Zk (Qa0))); replace HO1067 := Yt.mk (Kd.Yf (Qr1 HO1067.out) (Kd.Zw ho0) hb); replace HO1070 := Yt.mk (Kd.Yf (Qr1 HO1070.out) (Kd.Zw ho0) hb); replace BK1061 := Yt.mk (Zq (g := gb1061) (o := .cells #[.bool false, .slice none 0 0, .slice none 0 0] 50 (0, 0)) (Qr12 BK1061.out) hb); replace HB := Yt.mk (Zm (Qa0) hb); (try clear hb); (try clear ho0)))
      (try simp only [Act.put, List.setIfInBounds_toArray, List.set_cons_zero, List.set_cons_succ])
      go_cut [66] (fun v66 wc => ∃ (kq : Nat) (x66_27 : Bool), v66 = .bool x66_27 ∧ Yt (ratio_Read.j2 kq x4_11 t1063 t1072 x66_27 = some (r1, r2, r3, r4)) ∧ Yt (kq ≤ kj11) ∧ Yt (Kd.R (Kd.int .u32) 47 wc w.heap.size (fun k_ => some k_ ≠ (v1075 : Value).ownBlock) v1066 t1063) ∧ Yt (Kd.R (Kd.int .u32) 47 wc w.heap.size (fun k_ => some k_ ≠ (v1066 : Value).ownBlock) v1075 t1072) ∧ Yt (wc.heap[gb1061]? = some (.cells #[.bool false, (.slice none 0 0), (.slice none 0 0)] 50 (0, 0))) ∧ Yt (Below w.heap.size w wc))
      case first =>
       have H := HC28.out
       clear HC28
       by_cases c31 : t1074 = true
       rotate_left
       ·replace c31 := Bool.eq_false_iff.mpr c31
        subst c31
        rw [if_neg (show ¬ (false = true) by decide)] at H
        have H' := Yt.mk H
        clear H
        go_wp2
        go_meet
        case rel => exact ⟨_, (true), Qa5, H', ⟨by have := HJ4.out; have := HJ11.out; first | omega | exact Nat.le_refl _⟩, ⟨by (with_reducible repeat (first | apply Kd.Zf | apply Kd.Ze | apply Kd.Zj)); exact Kd.Zv HO1067.out (fun _ hk => hk.2)⟩, ⟨by (with_reducible repeat (first | apply Kd.Zf | apply Kd.Ze | apply Kd.Zj)); exact Kd.Zv HO1076.out (fun _ hk => hk.1.2)⟩, ⟨Qr12 BK1061.out⟩, ⟨Qa0⟩⟩
       subst c31
       rw [if_pos rfl] at H
       by_cases c32 : t1073 < (a0.size : Int)
       ·rw [if_pos c32] at H
        have c32b0 : decide (t1073 < (a0.size : Int)) = true := decide_eq_true c32
        clear c32
        (first | rw [c32b0] | rw [c32b1] | (simp only [Yi, Yj]; rw [c32b0]) | skip)
        have H' := Yt.mk H
        clear H
        go_wp2
        go_meet
        case rel => exact ⟨_, (true), Qa5, H', ⟨by have := HJ4.out; have := HJ11.out; first | omega | exact Nat.le_refl _⟩, ⟨by (with_reducible repeat (first | apply Kd.Zf | apply Kd.Ze | apply Kd.Zj)); exact Kd.Zv HO1067.out (fun _ hk => hk.2)⟩, ⟨by (with_reducible repeat (first | apply Kd.Zf | apply Kd.Ze | apply Kd.Zj)); exact Kd.Zv HO1076.out (fun _ hk => hk.1.2)⟩, ⟨Qr12 BK1061.out⟩, ⟨Qa0⟩⟩
       rw [if_neg c32] at H
       have c32b0 : decide (t1073 < (a0.size : Int)) = false := decide_eq_false c32
       clear c32
       (first | rw [c32b0] | rw [c32b1] | (simp only [Yi, Yj]; rw [c32b0]) | skip)
       have H' := Yt.mk H
       clear H
       obtain ⟨Ao33, co33, eo33⟩ := Kd.Zx HO1076.out
       subst eo33
       go_wp2
       go_meet
       case rel => exact ⟨_, (((t1072.length : Int) == 0)), Qa5, H', ⟨by have := HJ4.out; have := HJ11.out; first | omega | exact Nat.le_refl _⟩, ⟨by (with_reducible repeat (first | apply Kd.Zf | apply Kd.Ze | apply Kd.Zj)); exact Kd.Zv HO1067.out (fun _ hk => hk.2)⟩, ⟨by (with_reducible repeat (first | apply Kd.Zf | apply Kd.Ze | apply Kd.Zj)); exact Kd.Zv HO1076.out (fun _ hk => hk.1.2)⟩, ⟨Qr12 BK1061.out⟩, ⟨Qa0⟩⟩
      case rest =>
       clear HC28
       try clear c1; try clear p1; try clear q1; try clear hx1; try clear qi1; try clear c2; try clear c2b0; try clear c2b1; try clear p2; try clear q2; try clear hx2; try clear c3; try clear c5; try clear p6; try clear c7; try clear c7b0; try clear c7b1; try clear c8; try clear c8b0; try clear c8b1; try clear c9; try clear p9; try clear q9; try clear hx9; try clear qi9; try clear c10; try clear c13; try clear c14; try clear c14b0; try clear c14b1; try clear p15; try clear q15; try clear hx15; try clear qi15; try clear c17; try clear c22; try clear c22b0; try clear c22b1; try clear c23; try clear c23b0; try clear p24; try clear q24; try clear hx24; try clear c26; try clear c26b0; try clear c26b1; try clear c31; try clear c32; try clear c32b0; try clear c32b1; try clear hcz4_0; try clear hcz4_1; try clear hcz4_2; try clear hfz4_0; try clear hfz4_1; try clear hfz4_2; try clear p1; try clear p15; try clear p2; try clear p24; try clear p9; try clear q1; try clear q15; try clear q24; try clear q9
       obtain ⟨kq, x66_27, rfl, HA, HJ27, HO_6, HO_9, BK1061, HB⟩ := hcut
       cases kq with
       | zero => exact absurd HA.out (by simp [ratio_Read.j2])
       | succ kj27 =>
        have H := HA.out
        clear HA
        simp only [ratio_Read.j2] at H
        by_cases c34 : x66_27 = true
        rotate_left
        ·replace c34 := Bool.eq_false_iff.mpr c34
         subst c34
         rw [if_neg (show ¬ (false = true) by decide)] at H
         have H' := Yt.mk H
         clear H
         go_wp2
         go_meet
         case rel => exact ⟨_, (t1072), (false), H', ⟨by have := HJ4.out; have := HJ11.out; have := HJ27.out; first | omega | exact Nat.le_refl _⟩, ⟨Qr1 HO_6.out⟩, ⟨Qr1 HO_9.out⟩, ⟨Qr12 BK1061.out⟩, ⟨Qa0⟩⟩
        subst c34
        rw [if_pos rfl] at H
        simp only [Option.some.injEq, Prod.mk.injEq] at H
        obtain ⟨rfl, rfl, rfl, rfl⟩ := H
        have hcz35_0 : wc.cell? ⟨gb1061, 0, none⟩ = some (.bool false) := (Zl BK1061.out 0).trans rfl
        have hcz35_1 : wc.cell? ⟨gb1061, 1, none⟩ = some (.slice none 0 0) := (Zl BK1061.out 1).trans rfl
        have hcz35_2 : wc.cell? ⟨gb1061, 2, none⟩ = some (.slice none 0 0) := (Zl BK1061.out 2).trans rfl
        have hfz35_0 := Zn BK1061.out 0
        have hfz35_1 := Zn BK1061.out 1
        have hfz35_2 := Zn BK1061.out 2
        go_wp2
        refine bodyPost_ret (results_ct rfl _ _ gb1061 50 #[.bool false, .slice none 0 0, .slice none 0 0] (0, 0) _ rfl (by (with_reducible repeat (first | refine Zg ?_ _ | refine Zi ?_ | refine Zh ?_ _)); refine Ym (cs := #[.bool false, .slice none 0 0, .slice none 0 0]) ?_ 2 _ rfl; (with_reducible repeat (first | refine Zg ?_ _ | refine Zi ?_ | refine Zh ?_ _)); refine Ym (cs := #[.bool false, .slice none 0 0, .slice none 0 0]) ?_ 1 _ rfl; (with_reducible repeat (first | refine Zg ?_ _ | refine Zi ?_ | refine Zh ?_ _)); refine Ym (cs := #[.bool false, .slice none 0 0, .slice none 0 0]) ?_ 0 _ rfl; (with_reducible repeat (first | refine Zg ?_ _ | refine Zi ?_ | refine Zh ?_ _)); exact BK1061.out) Try.underlying50 rfl Qa8) rfl ?_
        exact ⟨_, _, Qa4, by first | exact Kd.R_nil _ _ _ _ _ | exact Kd.N_nil _ _ _ _ _ | exact Kd.V_nil _ _ _ _ _ | exact Kd.Q_nil _ _ _ _ _ | exact Kd.S_nil _ _ _ _ _, by first | exact Kd.R_nil _ _ _ _ _ | exact Kd.N_nil _ _ _ _ _ | exact Kd.V_nil _ _ _ _ _ | exact Kd.Q_nil _ _ _ _ _ | exact Kd.S_nil _ _ _ _ _, Qa0⟩
     case rest =>
      clear HC18
      try clear c1; try clear p1; try clear q1; try clear hx1; try clear qi1; try clear c2; try clear c2b0; try clear c2b1; try clear p2; try clear q2; try clear hx2; try clear c3; try clear c5; try clear p6; try clear c7; try clear c7b0; try clear c7b1; try clear c8; try clear c8b0; try clear c8b1; try clear c9; try clear p9; try clear q9; try clear hx9; try clear qi9; try clear c10; try clear c13; try clear c14; try clear c14b0; try clear c14b1; try clear p15; try clear q15; try clear hx15; try clear qi15; try clear c17; try clear c22; try clear c22b0; try clear c22b1; try clear c23; try clear c23b0; try clear p24; try clear q24; try clear hx24; try clear c26; try clear c26b0; try clear c26b1; try clear c31; try clear c32; try clear c32b0; try clear c32b1; try clear c34; try clear hcz35_0; try clear hcz35_1; try clear hcz35_2; try clear hcz37_0; try clear hcz37_1; try clear hcz37_2; try clear hcz4_0; try clear hcz4_1; try clear hcz4_2; try clear hfz35_0; try clear hfz35_1; try clear hfz35_2; try clear hfz37_0; try clear hfz37_1; try clear hfz37_2; try clear hfz4_0; try clear hfz4_1; try clear hfz4_2; try clear p1; try clear p15; try clear p2; try clear p24; try clear p6; try clear p9; try clear q1; try clear q15; try clear q2; try clear q24; try clear q9
      obtain ⟨kq, x9_17, x1062000_17, HA, HJ17, HO_6, HO_9, BK1061, HB⟩ := hcut
      cases kq with
      | zero => exact absurd HA.out (by simp [ratio_Read.j3])
      | succ kj17 =>
       have H := HA.out
       clear HA
       simp only [ratio_Read.j3] at H
       replace H := Option.bind_eq_some_iff.mp H
       obtain ⟨⟨t1077, t1078, t1081, t1084⟩, A380, H⟩ := H
       replace H : (some (t1077, t1078, t1081, t1084)) = some (r1, r2, r3, r4) := H
       have A38 := Yt.mk A380
       clear A380
       simp only [Option.some.injEq, Prod.mk.injEq] at H
       obtain ⟨rfl, rfl, rfl, rfl⟩ := H
       obtain ⟨Ao39, co39, eo39⟩ := Kd.Zx HO_6.out
       subst eo39
       obtain ⟨Ao40, co40, eo40⟩ := Kd.Zx HO_9.out
       subst eo40
       go_wp2_with (first | ((with_reducible refine Zr (f := 48) rfl ?_); refine Yg (some 71) rfl rfl Try.func48 Qa8 rfl #[.bool x4_11, .slice Ao39 t1063.length co39, .slice Ao40 x9_17.length co40] rfl Qa2 ?_; (with_reducible refine (ratio_Make.calls kj17 x4_11 _ _ t1063 _ _ x9_17 t1077 t1078 t1081 t1084 _ ?side1 ?side2 ?side3 ?side4 A38.out).mono ?_); (case side1 => exact Qe11 (Kd.Zs HO_6.out).2.2); (case side2 => exact (Kd.Zs HO_6.out).2.1); (case side3 => exact Qe11 (Kd.Zs HO_9.out).2.2); (case side4 => exact (Kd.Zs HO_9.out).2.1); rintro e w41 ⟨v1079, v1082, rfl, ho0, ho1, hb⟩; refine ⟨_, rfl, ?_⟩; have HO1080 := Yt.mk (Kd.Yb (Kd.Ya (Kd.Ya ho0 (Kd.R_lt (Qr1 HO_6.out))) (Kd.R_lt (Qr1 HO_9.out))) (Zk (Qa0))); have HO1083 := Yt.mk (Kd.Yb (Kd.Ya (Kd.Ya ho1 (Kd.R_lt (Qr1 HO_6.out))) (Kd.R_lt (Qr1 HO_9.out))) (Zk (Qa0))); replace HO_6 := Yt.mk (Kd.Zv (Kd.Yl (Kd.Yl (Kd.R_old (Qr1 HO_6.out) hb) (Kd.Zw ho0)) (Kd.Zw ho1)) (fun _ h_ => h_.1)); replace HO_9 := Yt.mk (Kd.Zv (Kd.Yl (Kd.Yl (Kd.R_old (Qr1 HO_9.out) hb) (Kd.Zw ho0)) (Kd.Zw ho1)) (fun _ h_ => h_.1)); replace BK1061 := Yt.mk (Zq (g := gb1061) (o := .cells #[.bool x1062000_17, .slice none 0 0, .slice none 0 0] 50 (0, 0)) (Qr12 BK1061.out) hb); replace HB := Yt.mk (Zm (Qa0) hb); (try clear hb); (try clear ho0); (try clear ho1); have hcz42_0 : w41.cell? ⟨gb1061, 0, none⟩ = some (.bool x1062000_17) := (Zl BK1061.out 0).trans rfl; have hcz42_1 : w41.cell? ⟨gb1061, 1, none⟩ = some (.slice none 0 0) := (Zl BK1061.out 1).trans rfl; have hcz42_2 : w41.cell? ⟨gb1061, 2, none⟩ = some (.slice none 0 0) := (Zl BK1061.out 2).trans rfl; have hfz42_0 := Zn BK1061.out 0; have hfz42_1 := Zn BK1061.out 1; have hfz42_2 := Zn BK1061.out 2; obtain ⟨Ao43, co43, eo43⟩ := Kd.Zx HO1080.out; subst eo43; obtain ⟨Ao44, co44, eo44⟩ := Kd.Zx HO1083.out; subst eo44))
       refine bodyPost_ret (results_ct rfl _ _ gb1061 50 #[.bool t1077, .slice Ao43 t1078.length co43, .slice Ao44 t1081.length co44] (0, 0) _ rfl (by (with_reducible repeat (first | refine Zg ?_ _ | refine Zi ?_ | refine Zh ?_ _)); refine Ym (cs := #[.bool t1077, .slice Ao43 t1078.length co43, .slice none 0 0]) ?_ 2 _ rfl; (with_reducible repeat (first | refine Zg ?_ _ | refine Zi ?_ | refine Zh ?_ _)); refine Ym (cs := #[.bool t1077, .slice none 0 0, .slice none 0 0]) ?_ 1 _ rfl; (with_reducible repeat (first | refine Zg ?_ _ | refine Zi ?_ | refine Zh ?_ _)); refine Ym (cs := #[.bool x1062000_17, .slice none 0 0, .slice none 0 0]) ?_ 0 _ rfl; (with_reducible repeat (first | refine Zg ?_ _ | refine Zi ?_ | refine Zh ?_ _)); exact BK1061.out) Try.underlying50 rfl Qa8) rfl ?_
       exact ⟨_, _, Qa4, by (with_reducible repeat (first | apply Kd.Zf | apply Kd.Ze | apply Kd.Zj)); exact Kd.Zv (Kd.Yh (p := ⟨gb1061, 2, none⟩) (Kd.Yh (p := ⟨gb1061, 1, none⟩) (Kd.Yh (p := ⟨gb1061, 0, none⟩) (Kd.Yq HO1080.out BK1061.out (by decide)) (fun _ hk => hk.2) (.bool t1077)) (fun _ hk => hk.2) (.slice Ao43 t1078.length co43)) (fun _ hk => hk.2) (.slice Ao44 t1081.length co44)) (fun _ hk => hk.1.1.1), by (with_reducible repeat (first | apply Kd.Zf | apply Kd.Ze | apply Kd.Zj)); exact Kd.Zv (Kd.Yh (p := ⟨gb1061, 2, none⟩) (Kd.Yh (p := ⟨gb1061, 1, none⟩) (Kd.Yh (p := ⟨gb1061, 0, none⟩) (Kd.Yq HO1083.out BK1061.out (by decide)) (fun _ hk => hk.2) (.bool t1077)) (fun _ hk => hk.2) (.slice Ao43 t1078.length co43)) (fun _ hk => hk.2) (.slice Ao44 t1081.length co44)) (fun _ hk => hk.1.1.1), Qa0⟩
def w2_wakes.f (k : Nat)  : Option (Bool) := (ratio_Make.f k true (([6] : List Int)) (([4] : List Int))).bind fun bt1133 => ((ratio_Text.f k bt1133.1 bt1133.2.1 bt1133.2.2.1).bind fun bt1142 => ((ratio_Read.f k (⟨#[43, 48, 54, 47, 52]⟩ : ByteArray)).bind fun bt1144 => ((ratio_Add.f k bt1144.1 bt1144.2.1 bt1144.2.2.1 bt1133.1 bt1133.2.1 bt1133.2.2.1).bind fun bt1153 => (if bt1133.2.2.2 = 0 then (if bt1142.2 = 0 then (if bt1144.2.2.2 = 0 then (if bt1153.2.2.2 = 0 then (if bt1142.1.toList = ([45, 51, 47, 50] : List UInt8) then ((ratio_Of.f k 0).bind fun bt1162 => ((ratio_Same.f k bt1153.1 bt1153.2.1 bt1153.2.2.1 bt1162.1 bt1162.2.1 bt1162.2.2).bind fun t1169 => (if t1169 = true then ((ratio_Form.f k bt1133.1 bt1133.2.1 bt1133.2.2.1).bind fun t1170 => (if t1170 = true then ((ratio_Form.f k false ([] : List Int) ([] : List Int)).bind fun t1171 => (if t1171 = true then (none) else ((ratio_Same.f k bt1133.1 bt1133.2.1 bt1133.2.2.1 bt1144.1 bt1144.2.1 bt1144.2.2.1).bind fun t1172 => (some (!t1172))))) else (none))) else (none)))) else (none)) else (none)) else (none)) else (none)) else (none)))))
theorem w2_wakes.mono : ∀ k, LeO (w2_wakes.f k ) (w2_wakes.f (k + 1) ) := by
 intro  k
 unfold w2_wakes.f
 have m0 := @ratio_Add.mono
 have m1 := @ratio_Form.mono
 have m2 := @ratio_Make.mono
 have m3 := @ratio_Of.mono
 have m4 := @ratio_Read.mono
 have m5 := @ratio_Same.mono
 have m6 := @ratio_Text.mono
 exact Qa6
def w2_wakes.T7 : Bool × List (List Nat × List Nat) := (true, [([], []), ([], []), ([0, 1, 1], [0, 1]), ([2, 2], [2]), ([3], [3]), ([4, 3, 3], [3, 4]), ([3, 5], [3, 5]), ([6, 5], [6]), ([7], [7]), ([8, 7, 7], [7, 8]), ([9, 7], [7, 9]), ([7, 10], [7, 10]), ([11, 9], [11]), ([12], [12]), ([12], [12]), ([13, 14, 12, 12], [12, 13, 14]), ([15, 12], [12, 15]), ([12, 16], [12, 16]), ([17, 15, 0, 1, 2, 3, 4, 5, 6, 7, 8, 9, 10, 11, 12, 13, 14, 15, 16, 17], [17])])
def w2_wakes.B7 : List Nat := [0, 0, 3, 7, 15, 31, 63, 127, 255, 511, 1023, 2047, 4095, 8191, 8191, 32767, 65535, 131071, 262143]
theorem w2_wakes.tab7 : rtab .any (opsOf Try.f47 7) = w2_wakes.T7 := by kernel_rfl
theorem w2_wakes.bits7 : waitsOk w2_wakes.T7.2 w2_wakes.B7 = true := by kernel_rfl
theorem w2_wakes.calls (k : Nat)  (r : Bool) (w : World) (h : w2_wakes.f k  = some r) :
  Calls Try.prog 47 #[] w fun e w' => e = .returned (.bool r) ∧ Below w.heap.size w w' := by
 have hu50 := Try.underlying50
 have HB := Yt.mk (Below.refl w.heap.size w)
 unfold w2_wakes.f at h
 have H := h
 clear h
 obtain ⟨y1127, hy1127⟩ : ∃ y_ : List Int, y_ = (([6] : List Int)) := ⟨_, rfl⟩
 replace H : ((ratio_Make.f k true y1127 (([4] : List Int))).bind fun bt1133 => ((ratio_Text.f k bt1133.1 bt1133.2.1 bt1133.2.2.1).bind fun bt1142 => ((ratio_Read.f k (⟨#[43, 48, 54, 47, 52]⟩ : ByteArray)).bind fun bt1144 => ((ratio_Add.f k bt1144.1 bt1144.2.1 bt1144.2.2.1 bt1133.1 bt1133.2.1 bt1133.2.2.1).bind fun bt1153 => (if bt1133.2.2.2 = 0 then (if bt1142.2 = 0 then (if bt1144.2.2.2 = 0 then (if bt1153.2.2.2 = 0 then (if bt1142.1.toList = ([45, 51, 47, 50] : List UInt8) then ((ratio_Of.f k 0).bind fun bt1162 => ((ratio_Same.f k bt1153.1 bt1153.2.1 bt1153.2.2.1 bt1162.1 bt1162.2.1 bt1162.2.2).bind fun t1169 => (if t1169 = true then ((ratio_Form.f k bt1133.1 bt1133.2.1 bt1133.2.2.1).bind fun t1170 => (if t1170 = true then ((ratio_Form.f k false ([] : List Int) ([] : List Int)).bind fun t1171 => (if t1171 = true then (none) else ((ratio_Same.f k bt1133.1 bt1133.2.1 bt1133.2.2.1 bt1144.1 bt1144.2.1 bt1144.2.2.1).bind fun t1172 => (some (!t1172))))) else (none))) else (none)))) else (none)) else (none)) else (none)) else (none)) else (none)))))) = some r := Qh hy1127 H
 have Ny1127 := Yt.mk hy1127
 clear hy1127
 obtain ⟨y1130, hy1130⟩ : ∃ y_ : List Int, y_ = (([4] : List Int)) := ⟨_, rfl⟩
 replace H : ((ratio_Make.f k true y1127 y1130).bind fun bt1133 => ((ratio_Text.f k bt1133.1 bt1133.2.1 bt1133.2.2.1).bind fun bt1142 => ((ratio_Read.f k (⟨#[43, 48, 54, 47, 52]⟩ : ByteArray)).bind fun bt1144 => ((ratio_Add.f k bt1144.1 bt1144.2.1 bt1144.2.2.1 bt1133.1 bt1133.2.1 bt1133.2.2.1).bind fun bt1153 => (if bt1133.2.2.2 = 0 then (if bt1142.2 = 0 then (if bt1144.2.2.2 = 0 then (if bt1153.2.2.2 = 0 then (if bt1142.1.toList = ([45, 51, 47, 50] : List UInt8) then ((ratio_Of.f k 0).bind fun bt1162 => ((ratio_Same.f k bt1153.1 bt1153.2.1 bt1153.2.2.1 bt1162.1 bt1162.2.1 bt1162.2.2).bind fun t1169 => (if t1169 = true then ((ratio_Form.f k bt1133.1 bt1133.2.1 bt1133.2.2.1).bind fun t1170 => (if t1170 = true then ((ratio_Form.f k false ([] : List Int) ([] : List Int)).bind fun t1171 => (if t1171 = true then (none) else ((ratio_Same.f k bt1133.1 bt1133.2.1 bt1133.2.2.1 bt1144.1 bt1144.2.1 bt1144.2.2.1).bind fun t1172 => (some (!t1172))))) else (none))) else (none)))) else (none)) else (none)) else (none)) else (none)) else (none)))))) = some r := Qh hy1130 H
 have Ny1130 := Yt.mk hy1130
 clear hy1130
 replace H := Option.bind_eq_some_iff.mp H
 obtain ⟨⟨t1133, t1134, t1137, t1140⟩, A10, H⟩ := H
 try dsimp only at H
 have A1 := Yt.mk A10
 clear A10
 replace H := Option.bind_eq_some_iff.mp H
 obtain ⟨⟨t1142, t1143⟩, A20, H⟩ := H
 try dsimp only at H
 have A2 := Yt.mk A20
 clear A20
 replace H := Option.bind_eq_some_iff.mp H
 obtain ⟨⟨t1144, t1145, t1148, t1151⟩, A30, H⟩ := H
 try dsimp only at H
 have A3 := Yt.mk A30
 clear A30
 replace H := Option.bind_eq_some_iff.mp H
 obtain ⟨⟨t1153, t1154, t1157, t1160⟩, A40, H⟩ := H
 try dsimp only at H
 have A4 := Yt.mk A40
 clear A40
 by_cases c5 : t1140 = 0
 rotate_left
 ·rw [if_neg c5] at H
  exact absurd H (by simp)
 rw [if_pos c5] at H
 have c5b0 : (t1140 == 0) = true := beq_iff_eq.mpr c5
 have c5b1 : (t1140 != 0) = false := bne_eq_false_iff_eq.mpr c5
 clear c5
 by_cases c6 : t1143 = 0
 rotate_left
 ·rw [if_neg c6] at H
  exact absurd H (by simp)
 rw [if_pos c6] at H
 have c6b0 : (t1143 == 0) = true := beq_iff_eq.mpr c6
 have c6b1 : (t1143 != 0) = false := bne_eq_false_iff_eq.mpr c6
 clear c6
 by_cases c7 : t1151 = 0
 rotate_left
 ·rw [if_neg c7] at H
  exact absurd H (by simp)
 rw [if_pos c7] at H
 have c7b0 : (t1151 == 0) = true := beq_iff_eq.mpr c7
 have c7b1 : (t1151 != 0) = false := bne_eq_false_iff_eq.mpr c7
 clear c7
 by_cases c8 : t1160 = 0
 rotate_left
 ·rw [if_neg c8] at H
  exact absurd H (by simp)
 rw [if_pos c8] at H
 have c8b0 : (t1160 == 0) = true := beq_iff_eq.mpr c8
 have c8b1 : (t1160 != 0) = false := bne_eq_false_iff_eq.mpr c8
 clear c8
 by_cases c9 : t1142.toList = ([45, 51, 47, 50] : List UInt8)
 rotate_left
 ·rw [if_neg c9] at H
  exact absurd H (by simp)
 rw [if_pos c9] at H
 have c9b0 : (t1142.toList == ([45, 51, 47, 50] : List UInt8)) = true := beq_iff_eq.mpr c9
 have c9b1 : (t1142.toList != ([45, 51, 47, 50] : List UInt8)) = false := bne_eq_false_iff_eq.mpr c9
 clear c9
 replace H := Option.bind_eq_some_iff.mp H
 obtain ⟨⟨t1162, t1163, t1166⟩, A100, H⟩ := H
 try dsimp only at H
 have A10 := Yt.mk A100
 clear A100
 replace H := Option.bind_eq_some_iff.mp H
 obtain ⟨t1169, A110, H⟩ := H
 try dsimp only at H
 have A11 := Yt.mk A110
 clear A110
 by_cases c12 : t1169 = true
 rotate_left
 ·replace c12 := Bool.eq_false_iff.mpr c12
  subst c12
  rw [if_neg (show ¬ (false = true) by decide)] at H
  exact absurd H (by simp)
 subst c12
 rw [if_pos rfl] at H
 replace H := Option.bind_eq_some_iff.mp H
 obtain ⟨t1170, A130, H⟩ := H
 try dsimp only at H
 have A13 := Yt.mk A130
 clear A130
 by_cases c14 : t1170 = true
 rotate_left
 ·replace c14 := Bool.eq_false_iff.mpr c14
  subst c14
  rw [if_neg (show ¬ (false = true) by decide)] at H
  exact absurd H (by simp)
 subst c14
 rw [if_pos rfl] at H
 replace H := Option.bind_eq_some_iff.mp H
 obtain ⟨t1171, A150, H⟩ := H
 try dsimp only at H
 have A15 := Yt.mk A150
 clear A150
 by_cases c16 : t1171 = true
 ·subst c16
  rw [if_pos rfl] at H
  exact absurd H (by simp)
 replace c16 := Bool.eq_false_iff.mpr c16
 subst c16
 rw [if_neg (show ¬ (false = true) by decide)] at H
 replace H := Option.bind_eq_some_iff.mp H
 obtain ⟨t1172, A170, H⟩ := H
 replace H : (some (!t1172)) = some r := H
 have A17 := Yt.mk A170
 clear A170
 obtain rfl := Option.some.inj H
 go_enter Try.func47, Try.ntmps47
 try go_wp2_with (first | ((with_reducible refine Yk (N := 10) rfl ?_); refine Kd.R_lit (Kd.int .u32) _ 47 ?hg (N := 10) ?hd (xs := ([6] : List Int)) (inner := [.int .u32 6]) (ok := fun _ => True) (okp := fun _ => True) ?hr ?hp (fun _ hk => hk) trivial (Below.refl _ _) (Nat.le_refl _) (by simp) ?_; (case hd => rfl); (case hg => rfl); (case hr => exact Qa9); (case hp => exact (Reps.one (show Kd.M (Kd.int .u32) _ _ _ 6 [.int .u32 6] from rfl) (Reps.none _ _))); intro v1128 w18 ho19 hb hg_ hnew_; clear hg_ hnew_; (first | rw [← Ny1127.out] at ho19 | (simp only [Int.reduceToNat] at ho19; rw [← Ny1127.out] at ho19)); have HO1129 := Yt.mk (Kd.Yb ho19 (Zk (Qa0))); replace HB := Yt.mk (Zm (Qa0) hb); clear hb ho19) | ((with_reducible refine Yk (N := 11) rfl ?_); refine Kd.R_lit (Kd.int .u32) _ 47 ?hg (N := 11) ?hd (xs := ([4] : List Int)) (inner := [.int .u32 4]) (ok := fun _ => True) (okp := fun _ => True) ?hr ?hp (fun _ hk => hk) trivial (Below.refl _ _) (Nat.le_refl _) (by simp) ?_; (case hd => rfl); (case hg => rfl); (case hr => exact Qa9); (case hp => exact (Reps.one (show Kd.M (Kd.int .u32) _ _ _ 4 [.int .u32 4] from rfl) (Reps.none _ _))); intro v1131 w20 ho21 hb hg_ hnew_; clear hg_ hnew_; (first | rw [← Ny1130.out] at ho21 | (simp only [Int.reduceToNat] at ho21; rw [← Ny1130.out] at ho21)); have HO1132 := Yt.mk (Kd.Yb (Kd.Ya ho21 (Kd.R_lt (Qr1 HO1129.out))) (Zk (Qa0))); replace HO1129 := Yt.mk (Kd.Yf (Qr1 HO1129.out) (Kd.Zw ho21) hb); replace HB := Yt.mk (Zm (Qa0) hb); clear hb ho21; obtain ⟨Ao22, co22, eo22⟩ := Kd.Zx HO1129.out; subst eo22; obtain ⟨Ao23, co23, eo23⟩ := Kd.Zx HO1132.out; subst eo23) | ((with_reducible refine Zr (f := 48) rfl ?_); refine Yg (some 12) rfl rfl Try.func48 Qa8 rfl #[.bool true, .slice Ao22 y1127.length co22, .slice Ao23 y1130.length co23] rfl Qa2 ?_; (with_reducible refine (ratio_Make.calls k true _ _ y1127 _ _ y1130 t1133 t1134 t1137 t1140 _ ?side1 ?side2 ?side3 ?side4 A1.out).mono ?_); (case side1 => exact Qe11 (Kd.Zs HO1129.out).2.2); (case side2 => exact (Kd.Zs HO1129.out).2.1); (case side3 => exact Qe11 (Kd.Zs HO1132.out).2.2); (case side4 => exact (Kd.Zs HO1132.out).2.1); rintro e w24 ⟨v1135, v1138, rfl, ho0, ho1, hb⟩; refine ⟨_, rfl, ?_⟩; have HO1136 := Yt.mk (Kd.Yb (Kd.Ya (Kd.Ya ho0 (Kd.R_lt (Qr1 HO1129.out))) (Kd.R_lt (Qr1 HO1132.out))) (Zk (Qa0))); have HO1139 := Yt.mk (Kd.Yb (Kd.Ya (Kd.Ya ho1 (Kd.R_lt (Qr1 HO1129.out))) (Kd.R_lt (Qr1 HO1132.out))) (Zk (Qa0))); replace HO1129 := Yt.mk (Kd.Zv (Kd.Yl (Kd.Yl (Kd.R_old (Qr1 HO1129.out) hb) (Kd.Zw ho0)) (Kd.Zw ho1)) (fun _ h_ => h_.1)); replace HO1132 := Yt.mk (Kd.Zv (Kd.Yl (Kd.Yl (Kd.R_old (Qr1 HO1132.out) hb) (Kd.Zw ho0)) (Kd.Zw ho1)) (fun _ h_ => h_.1)); replace HB := Yt.mk (Zm (Qa0) hb); (try clear hb); (try clear ho0); (try clear ho1)) | ((with_reducible refine Yk (N := 1) rfl ?_); refine Yo ?hg (N := 1) ?hd (cs := #[.bool false, .slice none 0 0, .slice none 0 0]) (t := 50) ?hr ?_; (case hd => rfl); (case hg => rfl); (case hr => exact Qa9); intro gb1141 hg w25 hbox hb; replace HO1129 := Yt.mk (Kd.Yd (Qr1 HO1129.out) hb); replace HO1132 := Yt.mk (Kd.Yd (Qr1 HO1132.out) hb); replace HO1136 := Yt.mk (Kd.Yd (Qr1 HO1136.out) hb); replace HO1139 := Yt.mk (Kd.Yd (Qr1 HO1139.out) hb); have BK1141 := Yt.mk (hbox); have GW1141 := Yt.mk ((by rw [hg]; exact (Zk (Qa0)) : w.heap.size ≤ gb1141)); have GE1141 := Yt.mk ((by rw [hg]; exact (Zk (Qa0)) : w.heap.size ≤ gb1141)); replace HB := Yt.mk (Zm (Qa0) hb); clear hb hbox hg; have hcz26_0 : w25.cell? ⟨gb1141, 0, none⟩ = some (.bool false) := (Zl BK1141.out 0).trans rfl; have hcz26_1 : w25.cell? ⟨gb1141, 1, none⟩ = some (.slice none 0 0) := (Zl BK1141.out 1).trans rfl; have hcz26_2 : w25.cell? ⟨gb1141, 2, none⟩ = some (.slice none 0 0) := (Zl BK1141.out 2).trans rfl; have hfz26_0 := Zn BK1141.out 0; have hfz26_1 := Zn BK1141.out 1; have hfz26_2 := Zn BK1141.out 2; obtain ⟨Ao27, co27, eo27⟩ := Kd.Zx HO1136.out; subst eo27; obtain ⟨Ao28, co28, eo28⟩ := Kd.Zx HO1139.out; subst eo28) | ((with_reducible refine Zr (f := 57) rfl ?_); refine Yg (some 17) rfl rfl Try.func57 Qa8 rfl #[.agg #[.bool t1133, .slice Ao27 t1134.length co27, .slice Ao28 t1137.length co28]] rfl Qa2 ?_; (with_reducible refine (ratio_Text.calls k t1133 _ _ t1134 _ _ t1137 t1142 t1143 _ ?side1 ?side2 ?side3 ?side4 A2.out).mono ?_); (case side1 => refine (Kd.Zs (e := 47) (base := w.heap.size) (ok := fun k_ => ((some k_ ≠ (.slice Ao28 t1137.length co28 : Value).ownBlock ∧ some k_ ≠ (.slice Ao22 y1127.length co22 : Value).ownBlock) ∧ some k_ ≠ (.slice Ao23 y1130.length co23 : Value).ownBlock)) (n := t1134.length) (c := co27) ?_).2.2; exact (by (with_reducible repeat (first | apply Kd.Zf | apply Kd.Ze | apply Kd.Zj)); exact (Kd.Zv (Kd.Yh (p := ⟨gb1141, 2, none⟩) (Kd.Yh (p := ⟨gb1141, 1, none⟩) (Kd.Yh (p := ⟨gb1141, 0, none⟩) (Kd.Yq HO1136.out BK1141.out (by decide)) (fun _ hk => hk.2) (.bool t1133)) (fun _ hk => hk.2) (.slice Ao27 t1134.length co27)) (fun _ hk => hk.2) (.slice Ao28 t1137.length co28)) (fun _ h_ => h_.1)))); (case side2 => exact (Kd.Zs HO1136.out).2.1); (case side3 => refine (Kd.Zs (e := 47) (base := w.heap.size) (ok := fun k_ => ((some k_ ≠ (.slice Ao27 t1134.length co27 : Value).ownBlock ∧ some k_ ≠ (.slice Ao22 y1127.length co22 : Value).ownBlock) ∧ some k_ ≠ (.slice Ao23 y1130.length co23 : Value).ownBlock)) (n := t1137.length) (c := co28) ?_).2.2; exact (by (with_reducible repeat (first | apply Kd.Zf | apply Kd.Ze | apply Kd.Zj)); exact (Kd.Zv (Kd.Yh (p := ⟨gb1141, 2, none⟩) (Kd.Yh (p := ⟨gb1141, 1, none⟩) (Kd.Yh (p := ⟨gb1141, 0, none⟩) (Kd.Yq HO1139.out BK1141.out (by decide)) (fun _ hk => hk.2) (.bool t1133)) (fun _ hk => hk.2) (.slice Ao27 t1134.length co27)) (fun _ hk => hk.2) (.slice Ao28 t1137.length co28)) (fun _ h_ => h_.1)))); (case side4 => exact (Kd.Zs HO1139.out).2.1); rintro e w29 ⟨rfl, hb⟩; refine ⟨_, rfl, ?_⟩; replace HO1129 := Yt.mk (Kd.Yd (by (with_reducible repeat (first | apply Kd.Zf | apply Kd.Ze | apply Kd.Zj)); exact (Kd.Zv (Kd.Yh (p := ⟨gb1141, 2, none⟩) (Kd.Yh (p := ⟨gb1141, 1, none⟩) (Kd.Yh (p := ⟨gb1141, 0, none⟩) (Kd.Yq HO1129.out BK1141.out (by decide)) (fun _ hk => hk.2) (.bool t1133)) (fun _ hk => hk.2) (.slice Ao27 t1134.length co27)) (fun _ hk => hk.2) (.slice Ao28 t1137.length co28)) (fun _ h_ => h_.1))) hb); replace HO1132 := Yt.mk (Kd.Yd (by (with_reducible repeat (first | apply Kd.Zf | apply Kd.Ze | apply Kd.Zj)); exact (Kd.Zv (Kd.Yh (p := ⟨gb1141, 2, none⟩) (Kd.Yh (p := ⟨gb1141, 1, none⟩) (Kd.Yh (p := ⟨gb1141, 0, none⟩) (Kd.Yq HO1132.out BK1141.out (by decide)) (fun _ hk => hk.2) (.bool t1133)) (fun _ hk => hk.2) (.slice Ao27 t1134.length co27)) (fun _ hk => hk.2) (.slice Ao28 t1137.length co28)) (fun _ h_ => h_.1))) hb); replace HO1136 := Yt.mk (Kd.Yd (by (with_reducible repeat (first | apply Kd.Zf | apply Kd.Ze | apply Kd.Zj)); exact (Kd.Zv (Kd.Yh (p := ⟨gb1141, 2, none⟩) (Kd.Yh (p := ⟨gb1141, 1, none⟩) (Kd.Yh (p := ⟨gb1141, 0, none⟩) (Kd.Yq HO1136.out BK1141.out (by decide)) (fun _ hk => hk.2) (.bool t1133)) (fun _ hk => hk.2) (.slice Ao27 t1134.length co27)) (fun _ hk => hk.2) (.slice Ao28 t1137.length co28)) (fun _ h_ => h_.1))) hb); replace HO1139 := Yt.mk (Kd.Yd (by (with_reducible repeat (first | apply Kd.Zf | apply Kd.Ze | apply Kd.Zj)); exact (Kd.Zv (Kd.Yh (p := ⟨gb1141, 2, none⟩) (Kd.Yh (p := ⟨gb1141, 1, none⟩) (Kd.Yh (p := ⟨gb1141, 0, none⟩) (Kd.Yq HO1139.out BK1141.out (by decide)) (fun _ hk => hk.2) (.bool t1133)) (fun _ hk => hk.2) (.slice Ao27 t1134.length co27)) (fun _ hk => hk.2) (.slice Ao28 t1137.length co28)) (fun _ h_ => h_.1))) hb); replace BK1141 := Yt.mk (Zq (g := gb1141) (o := .cells #[.bool t1133, .slice Ao27 t1134.length co27, .slice Ao28 t1137.length co28] 50 (0, 0)) (by (with_reducible repeat (first | refine Zg ?_ _ | refine Zi ?_ | refine Zh ?_ _)); refine Ym (cs := #[.bool t1133, .slice Ao27 t1134.length co27, .slice none 0 0]) ?_ 2 _ rfl; (with_reducible repeat (first | refine Zg ?_ _ | refine Zi ?_ | refine Zh ?_ _)); refine Ym (cs := #[.bool t1133, .slice none 0 0, .slice none 0 0]) ?_ 1 _ rfl; (with_reducible repeat (first | refine Zg ?_ _ | refine Zi ?_ | refine Zh ?_ _)); refine Ym (cs := #[.bool false, .slice none 0 0, .slice none 0 0]) ?_ 0 _ rfl; (with_reducible repeat (first | refine Zg ?_ _ | refine Zi ?_ | refine Zh ?_ _)); exact BK1141.out) hb); replace HB := Yt.mk (Zm (Qa0) hb); (try clear hb); (try clear hk)) | ((with_reducible refine Zr (f := 59) rfl ?_); refine Yg (some 21) rfl rfl Try.func59 Qa8 rfl #[.string (⟨#[43, 48, 54, 47, 52]⟩ : ByteArray)] rfl Qa2 ?_; (with_reducible refine (ratio_Read.calls k (⟨#[43, 48, 54, 47, 52]⟩ : ByteArray) t1144 t1145 t1148 t1151 _ A3.out).mono ?_); rintro e w30 ⟨v1146, v1149, rfl, ho0, ho1, hb⟩; refine ⟨_, rfl, ?_⟩; have HO1147 := Yt.mk (Kd.Yb (Kd.Ya (Kd.Ya (Kd.Ya (Kd.Ya ho0 (Kd.R_lt (Qr1 HO1129.out))) (Kd.R_lt (Qr1 HO1132.out))) (Kd.R_lt (Qr1 HO1136.out))) (Kd.R_lt (Qr1 HO1139.out))) (Zk (Qa0))); have HO1150 := Yt.mk (Kd.Yb (Kd.Ya (Kd.Ya (Kd.Ya (Kd.Ya ho1 (Kd.R_lt (Qr1 HO1129.out))) (Kd.R_lt (Qr1 HO1132.out))) (Kd.R_lt (Qr1 HO1136.out))) (Kd.R_lt (Qr1 HO1139.out))) (Zk (Qa0))); replace HO1129 := Yt.mk (Kd.Zv (Kd.Yl (Kd.Yl (Kd.R_old (Qr1 HO1129.out) hb) (Kd.Zw ho0)) (Kd.Zw ho1)) (fun _ h_ => h_.1)); replace HO1132 := Yt.mk (Kd.Zv (Kd.Yl (Kd.Yl (Kd.R_old (Qr1 HO1132.out) hb) (Kd.Zw ho0)) (Kd.Zw ho1)) (fun _ h_ => h_.1)); replace HO1136 := Yt.mk (Kd.Zv (Kd.Yl (Kd.Yl (Kd.R_old (Qr1 HO1136.out) hb) (Kd.Zw ho0)) (Kd.Zw ho1)) (fun _ h_ => h_.1)); replace HO1139 := Yt.mk (Kd.Zv (Kd.Yl (Kd.Yl (Kd.R_old (Qr1 HO1139.out) hb) (Kd.Zw ho0)) (Kd.Zw ho1)) (fun _ h_ => h_.1)); replace BK1141 := Yt.mk (Zq (g := gb1141) (o := .cells #[.bool t1133, .slice Ao27 t1134.length co27, .slice Ao28 t1137.length co28] 50 (0, 0)) (Qr12 BK1141.out) hb); replace HB := Yt.mk (Zm (Qa0) hb); (try clear hb); (try clear ho0); (try clear ho1)) | ((with_reducible refine Yk (N := 5) rfl ?_); refine Yo ?hg (N := 5) ?hd (cs := #[.bool false, .slice none 0 0, .slice none 0 0]) (t := 50) ?hr ?_; (case hd => rfl); (case hg => rfl); (case hr => exact Qa9); intro gb1152 hg w31 hbox hb; replace HO1129 := Yt.mk (Kd.Yd (Qr1 HO1129.out) hb); replace HO1132 := Yt.mk (Kd.Yd (Qr1 HO1132.out) hb); replace HO1136 := Yt.mk (Kd.Yd (Qr1 HO1136.out) hb); replace HO1139 := Yt.mk (Kd.Yd (Qr1 HO1139.out) hb); replace HO1147 := Yt.mk (Kd.Yd (Qr1 HO1147.out) hb); replace HO1150 := Yt.mk (Kd.Yd (Qr1 HO1150.out) hb); have BK1152 := Yt.mk (hbox); have GW1152 := Yt.mk ((by rw [hg]; exact (Zk (Qa0)) : w.heap.size ≤ gb1152)); have GE1152 := Yt.mk ((by rw [hg]; exact (Zk (Qa0)) : w.heap.size ≤ gb1152)); replace HB := Yt.mk (Zm (Qa0) hb); have NB1141_1152 := Yt.mk ((by rw [hg]; exact Nat.ne_of_lt (blk_lt (g := gb1141) (o := .cells #[.bool t1133, .slice Ao27 t1134.length co27, .slice Ao28 t1137.length co28] 50 (0, 0)) (Qr12 BK1141.out)) : gb1141 ≠ gb1152)); have NB1152_1141 := Yt.mk ((by rw [hg]; exact Nat.ne_of_gt (blk_lt (g := gb1141) (o := .cells #[.bool t1133, .slice Ao27 t1134.length co27, .slice Ao28 t1137.length co28] 50 (0, 0)) (Qr12 BK1141.out)) : gb1152 ≠ gb1141)); replace BK1141 := Yt.mk (Zq (g := gb1141) (o := .cells #[.bool t1133, .slice Ao27 t1134.length co27, .slice Ao28 t1137.length co28] 50 (0, 0)) (Qr12 BK1141.out) hb); clear hb hbox hg; have hnb32 := NB1152_1141.out; have hnc32 := NB1141_1152.out; have hcz33_0 : w31.cell? ⟨gb1152, 0, none⟩ = some (.bool false) := (Zl BK1152.out 0).trans rfl; have hcz33_1 : w31.cell? ⟨gb1152, 1, none⟩ = some (.slice none 0 0) := (Zl BK1152.out 1).trans rfl; have hcz33_2 : w31.cell? ⟨gb1152, 2, none⟩ = some (.slice none 0 0) := (Zl BK1152.out 2).trans rfl; have hfz33_0 := Zn BK1152.out 0; have hfz33_1 := Zn BK1152.out 1; have hfz33_2 := Zn BK1152.out 2; obtain ⟨Ao34, co34, eo34⟩ := Kd.Zx HO1147.out; subst eo34; obtain ⟨Ao35, co35, eo35⟩ := Kd.Zx HO1150.out; subst eo35) | ((with_reducible refine gate_store (t := 50) (p := 5) rfl ?_); refine store_event (t := 50) (p := 5) (v := ?vo_w36) (w1 := (((w31.setCell ⟨gb1152, 0, none⟩ (.bool t1144)).setCell ⟨gb1152, 1, none⟩ (.slice Ao34 t1145.length co34)).setCell ⟨gb1152, 2, none⟩ (.slice Ao35 t1148.length co35))) ?hg ?ho ?hn ?hr ?_; (case ho => rfl); (case hg => rfl); (case hn => rfl); (case hr => exact Qa9); intro w36 hw; have n0_ : Yt (Kd.R (Kd.int .u32) 47 w36 w.heap.size (fun k_ => some k_ ≠ (.slice Ao23 y1130.length co23 : Value).ownBlock ∧ some k_ ≠ (.slice Ao27 t1134.length co27 : Value).ownBlock ∧ some k_ ≠ (.slice Ao28 t1137.length co28 : Value).ownBlock ∧ some k_ ≠ (.slice Ao34 t1145.length co34 : Value).ownBlock ∧ some k_ ≠ (.slice Ao35 t1148.length co35 : Value).ownBlock) (.slice Ao22 y1127.length co22) y1127) := ⟨(by rw [hw]; exact (by (with_reducible repeat (first | apply Kd.Zf | apply Kd.Ze | apply Kd.Zj)); exact Kd.Zv (Kd.Yh (p := ⟨gb1152, 2, none⟩) (Kd.Yh (p := ⟨gb1152, 1, none⟩) (Kd.Yh (p := ⟨gb1152, 0, none⟩) (Kd.Yq HO1129.out BK1152.out (by decide)) (fun _ hk => hk.2) (.bool t1144)) (fun _ hk => hk.2) (.slice Ao34 t1145.length co34)) (fun _ hk => hk.2) (.slice Ao35 t1148.length co35)) (fun _ hk => ⟨hk.1.1.1.1.1.2, ⟨hk.1.1.1.1.2, ⟨hk.1.1.1.2, ⟨hk.1.1.2, hk.1.2⟩⟩⟩⟩)))⟩; have n1_ : Yt (Kd.R (Kd.int .u32) 47 w36 w.heap.size (fun k_ => some k_ ≠ (.slice Ao22 y1127.length co22 : Value).ownBlock ∧ some k_ ≠ (.slice Ao27 t1134.length co27 : Value).ownBlock ∧ some k_ ≠ (.slice Ao28 t1137.length co28 : Value).ownBlock ∧ some k_ ≠ (.slice Ao34 t1145.length co34 : Value).ownBlock ∧ some k_ ≠ (.slice Ao35 t1148.length co35 : Value).ownBlock) (.slice Ao23 y1130.length co23) y1130) := ⟨(by rw [hw]; exact (by (with_reducible repeat (first | apply Kd.Zf | apply Kd.Ze | apply Kd.Zj)); exact Kd.Zv (Kd.Yh (p := ⟨gb1152, 2, none⟩) (Kd.Yh (p := ⟨gb1152, 1, none⟩) (Kd.Yh (p := ⟨gb1152, 0, none⟩) (Kd.Yq HO1132.out BK1152.out (by decide)) (fun _ hk => hk.2) (.bool t1144)) (fun _ hk => hk.2) (.slice Ao34 t1145.length co34)) (fun _ hk => hk.2) (.slice Ao35 t1148.length co35)) (fun _ hk => ⟨hk.1.1.1.1.1.2, ⟨hk.1.1.1.1.2, ⟨hk.1.1.1.2, ⟨hk.1.1.2, hk.1.2⟩⟩⟩⟩)))⟩; have n2_ : Yt (Kd.R (Kd.int .u32) 47 w36 w.heap.size (fun k_ => some k_ ≠ (.slice Ao22 y1127.length co22 : Value).ownBlock ∧ some k_ ≠ (.slice Ao23 y1130.length co23 : Value).ownBlock ∧ some k_ ≠ (.slice Ao28 t1137.length co28 : Value).ownBlock ∧ some k_ ≠ (.slice Ao34 t1145.length co34 : Value).ownBlock ∧ some k_ ≠ (.slice Ao35 t1148.length co35 : Value).ownBlock) (.slice Ao27 t1134.length co27) t1134) := ⟨(by rw [hw]; exact (by (with_reducible repeat (first | apply Kd.Zf | apply Kd.Ze | apply Kd.Zj)); exact Kd.Zv (Kd.Yh (p := ⟨gb1152, 2, none⟩) (Kd.Yh (p := ⟨gb1152, 1, none⟩) (Kd.Yh (p := ⟨gb1152, 0, none⟩) (Kd.Yq HO1136.out BK1152.out (by decide)) (fun _ hk => hk.2) (.bool t1144)) (fun _ hk => hk.2) (.slice Ao34 t1145.length co34)) (fun _ hk => hk.2) (.slice Ao35 t1148.length co35)) (fun _ hk => ⟨hk.1.1.1.1.2, ⟨hk.1.1.1.2, ⟨hk.1.1.1.1.1, ⟨hk.1.1.2, hk.1.2⟩⟩⟩⟩)))⟩; have n3_ : Yt (Kd.R (Kd.int .u32) 47 w36 w.heap.size (fun k_ => some k_ ≠ (.slice Ao22 y1127.length co22 : Value).ownBlock ∧ some k_ ≠ (.slice Ao23 y1130.length co23 : Value).ownBlock ∧ some k_ ≠ (.slice Ao27 t1134.length co27 : Value).ownBlock ∧ some k_ ≠ (.slice Ao34 t1145.length co34 : Value).ownBlock ∧ some k_ ≠ (.slice Ao35 t1148.length co35 : Value).ownBlock) (.slice Ao28 t1137.length co28) t1137) := ⟨(by rw [hw]; exact (by (with_reducible repeat (first | apply Kd.Zf | apply Kd.Ze | apply Kd.Zj)); exact Kd.Zv (Kd.Yh (p := ⟨gb1152, 2, none⟩) (Kd.Yh (p := ⟨gb1152, 1, none⟩) (Kd.Yh (p := ⟨gb1152, 0, none⟩) (Kd.Yq HO1139.out BK1152.out (by decide)) (fun _ hk => hk.2) (.bool t1144)) (fun _ hk => hk.2) (.slice Ao34 t1145.length co34)) (fun _ hk => hk.2) (.slice Ao35 t1148.length co35)) (fun _ hk => ⟨hk.1.1.1.1.2, ⟨hk.1.1.1.2, ⟨hk.1.1.1.1.1, ⟨hk.1.1.2, hk.1.2⟩⟩⟩⟩)))⟩; have n4_ : Yt (Kd.R (Kd.int .u32) 47 w36 w.heap.size (fun k_ => some k_ ≠ (.slice Ao22 y1127.length co22 : Value).ownBlock ∧ some k_ ≠ (.slice Ao23 y1130.length co23 : Value).ownBlock ∧ some k_ ≠ (.slice Ao27 t1134.length co27 : Value).ownBlock ∧ some k_ ≠ (.slice Ao28 t1137.length co28 : Value).ownBlock ∧ some k_ ≠ (.slice Ao35 t1148.length co35 : Value).ownBlock) (.slice Ao34 t1145.length co34) t1145) := ⟨(by rw [hw]; exact (by (with_reducible repeat (first | apply Kd.Zf | apply Kd.Ze | apply Kd.Zj)); exact Kd.Zv (Kd.Yh (p := ⟨gb1152, 2, none⟩) (Kd.Yh (p := ⟨gb1152, 1, none⟩) (Kd.Yh (p := ⟨gb1152, 0, none⟩) (Kd.Yq HO1147.out BK1152.out (by decide)) (fun _ hk => hk.2) (.bool t1144)) (fun _ hk => hk.2) (.slice Ao34 t1145.length co34)) (fun _ hk => hk.2) (.slice Ao35 t1148.length co35)) (fun _ hk => ⟨hk.1.1.1.1.2, ⟨hk.1.1.1.2, ⟨hk.1.1.2, ⟨hk.1.2, hk.1.1.1.1.1⟩⟩⟩⟩)))⟩; have n5_ : Yt (Kd.R (Kd.int .u32) 47 w36 w.heap.size (fun k_ => some k_ ≠ (.slice Ao22 y1127.length co22 : Value).ownBlock ∧ some k_ ≠ (.slice Ao23 y1130.length co23 : Value).ownBlock ∧ some k_ ≠ (.slice Ao27 t1134.length co27 : Value).ownBlock ∧ some k_ ≠ (.slice Ao28 t1137.length co28 : Value).ownBlock ∧ some k_ ≠ (.slice Ao34 t1145.length co34 : Value).ownBlock) (.slice Ao35 t1148.length co35) t1148) := ⟨(by rw [hw]; exact (by (with_reducible repeat (first | apply Kd.Zf | apply Kd.Ze | apply Kd.Zj)); exact Kd.Zv (Kd.Yh (p := ⟨gb1152, 2, none⟩) (Kd.Yh (p := ⟨gb1152, 1, none⟩) (Kd.Yh (p := ⟨gb1152, 0, none⟩) (Kd.Yq HO1150.out BK1152.out (by decide)) (fun _ hk => hk.2) (.bool t1144)) (fun _ hk => hk.2) (.slice Ao34 t1145.length co34)) (fun _ hk => hk.2) (.slice Ao35 t1148.length co35)) (fun _ hk => ⟨hk.1.1.1.1.2, ⟨hk.1.1.1.2, ⟨hk.1.1.2, ⟨hk.1.2, hk.1.1.1.1.1⟩⟩⟩⟩)))⟩; have n6_ : Yt (w36.heap[gb1141]? = some (.cells #[.bool t1133, .slice Ao27 t1134.length co27, .slice Ao28 t1137.length co28] 50 (0, 0))) := ⟨(by rw [hw]; exact (by (with_reducible repeat (first | refine Zg ?_ _ | refine Zi ?_ | refine Zh ?_ _)); refine blk_far ?_ NB1141_1152.out _; (with_reducible repeat (first | refine Zg ?_ _ | refine Zi ?_ | refine Zh ?_ _)); refine blk_far ?_ NB1141_1152.out _; (with_reducible repeat (first | refine Zg ?_ _ | refine Zi ?_ | refine Zh ?_ _)); refine blk_far ?_ NB1141_1152.out _; (with_reducible repeat (first | refine Zg ?_ _ | refine Zi ?_ | refine Zh ?_ _)); exact BK1141.out))⟩; have n7_ : Yt (w36.heap[gb1152]? = some (.cells #[.bool t1144, .slice Ao34 t1145.length co34, .slice Ao35 t1148.length co35] 50 (0, 0))) := ⟨(by rw [hw]; exact (by (with_reducible repeat (first | refine Zg ?_ _ | refine Zi ?_ | refine Zh ?_ _)); refine Ym (cs := #[.bool t1144, .slice Ao34 t1145.length co34, .slice none 0 0]) ?_ 2 _ rfl; (with_reducible repeat (first | refine Zg ?_ _ | refine Zi ?_ | refine Zh ?_ _)); refine Ym (cs := #[.bool t1144, .slice none 0 0, .slice none 0 0]) ?_ 1 _ rfl; (with_reducible repeat (first | refine Zg ?_ _ | refine Zi ?_ | refine Zh ?_ _)); refine Ym (cs := #[.bool false, .slice none 0 0, .slice none 0 0]) ?_ 0 _ rfl; (with_reducible repeat (first | refine Zg ?_ _ | refine Zi ?_ | refine Zh ?_ _)); exact BK1152.out))⟩; have n8_ : Yt (Below w.heap.size w w36) := ⟨(by rw [hw]; exact (Qa0))⟩; clear hw; clear HO1129; clear HO1132; clear HO1136; clear HO1139; clear HO1147; clear HO1150; clear BK1141; clear BK1152; clear HB; have HO1129 := n0_; have HO1132 := n1_; have HO1136 := n2_; have HO1139 := n3_; have HO1147 := n4_; have HO1150 := n5_; have BK1141 := n6_; have BK1152 := n7_; have HB := n8_; clear n0_ n1_ n2_ n3_ n4_ n5_ n6_ n7_ n8_; have hcz37_0 : w36.cell? ⟨gb1152, 0, none⟩ = some (.bool t1144) := (Zl BK1152.out 0).trans rfl; have hcz37_1 : w36.cell? ⟨gb1152, 1, none⟩ = some (.slice Ao34 t1145.length co34) := (Zl BK1152.out 1).trans rfl; have hcz37_2 : w36.cell? ⟨gb1152, 2, none⟩ = some (.slice Ao35 t1148.length co35) := (Zl BK1152.out 2).trans rfl; have hfz37_0 := Zn BK1152.out 0; have hfz37_1 := Zn BK1152.out 1; have hfz37_2 := Zn BK1152.out 2; have hcz38_0 : w36.cell? ⟨gb1141, 0, none⟩ = some (.bool t1133) := (Zl BK1141.out 0).trans rfl; have hcz38_1 : w36.cell? ⟨gb1141, 1, none⟩ = some (.slice Ao27 t1134.length co27) := (Zl BK1141.out 1).trans rfl; have hcz38_2 : w36.cell? ⟨gb1141, 2, none⟩ = some (.slice Ao28 t1137.length co28) := (Zl BK1141.out 2).trans rfl; have hfz38_0 := Zn BK1141.out 0; have hfz38_1 := Zn BK1141.out 1; have hfz38_2 := Zn BK1141.out 2) | ((with_reducible refine Zr (f := 70) rfl ?_); refine Yg (some 27) rfl rfl Try.func70 Qa8 rfl #[.agg #[.bool t1144, .slice Ao34 t1145.length co34, .slice Ao35 t1148.length co35], .agg #[.bool t1133, .slice Ao27 t1134.length co27, .slice Ao28 t1137.length co28]] rfl Qa2 ?_; (with_reducible refine (ratio_Add.calls k t1144 (fun k_ => some k_ = (.slice Ao34 t1145.length co34 : Value).ownBlock) _ _ t1145 (fun k_ => some k_ = (.slice Ao35 t1148.length co35 : Value).ownBlock) _ _ t1148 t1133 (fun k_ => some k_ = (.slice Ao27 t1134.length co27 : Value).ownBlock) _ _ t1134 (fun k_ => some k_ = (.slice Ao28 t1137.length co28 : Value).ownBlock) _ _ t1137 t1153 t1154 t1157 t1160 _ ?side1 ?side2 ?side3 ?side4 A4.out).mono ?_); (case side1 => exact Kd.R_V (Kd.R_tight rfl (Kd.Yq (Kd.Yq (HO1147.out) BK1141.out (by decide)) BK1152.out (by decide)))); (case side2 => exact Kd.R_V (Kd.R_tight rfl (Kd.Yq (Kd.Yq (HO1150.out) BK1141.out (by decide)) BK1152.out (by decide)))); (case side3 => exact Kd.R_V (Kd.R_tight rfl (Kd.Yq (Kd.Yq (HO1136.out) BK1141.out (by decide)) BK1152.out (by decide)))); (case side4 => exact Kd.R_V (Kd.R_tight rfl (Kd.Yq (Kd.Yq (HO1139.out) BK1141.out (by decide)) BK1152.out (by decide)))); rintro e w39 ⟨v1155, v1158, rfl, ho0, ho1, hb⟩; refine ⟨_, rfl, ?_⟩; have HO1156 := Yt.mk (Kd.Yb (Kd.Ya (Kd.Ya (Kd.Ya (Kd.Ya (Kd.Ya (Kd.Ya (Kd.Zv (ok' := fun k_ => some k_ ≠ (v1158 : Value).ownBlock) ho0 (fun _ hk_ => hk_.2)) (Kd.R_lt (Qr1 HO1129.out))) (Kd.R_lt (Qr1 HO1132.out))) (Kd.R_lt (Qr1 HO1136.out))) (Kd.R_lt (Qr1 HO1139.out))) (Kd.R_lt (Qr1 HO1147.out))) (Kd.R_lt (Qr1 HO1150.out))) (Zk (Qa0))); have HO1159 := Yt.mk (Kd.Yb (Kd.Ya (Kd.Ya (Kd.Ya (Kd.Ya (Kd.Ya (Kd.Ya (Kd.Zv (ok' := fun k_ => some k_ ≠ (v1155 : Value).ownBlock) ho1 (fun _ hk_ => hk_.2)) (Kd.R_lt (Qr1 HO1129.out))) (Kd.R_lt (Qr1 HO1132.out))) (Kd.R_lt (Qr1 HO1136.out))) (Kd.R_lt (Qr1 HO1139.out))) (Kd.R_lt (Qr1 HO1147.out))) (Kd.R_lt (Qr1 HO1150.out))) (Zk (Qa0))); replace HO1129 := Yt.mk (Kd.Zv (Kd.Yl (Kd.Yl (Kd.R_old (Qr1 HO1129.out) hb) (Kd.Zw ho0)) (Kd.Zw ho1)) (fun _ h_ => h_.1)); replace HO1132 := Yt.mk (Kd.Zv (Kd.Yl (Kd.Yl (Kd.R_old (Qr1 HO1132.out) hb) (Kd.Zw ho0)) (Kd.Zw ho1)) (fun _ h_ => h_.1)); replace HO1136 := Yt.mk (Kd.Zv (Kd.Yl (Kd.Yl (Kd.R_old (Qr1 HO1136.out) hb) (Kd.Zw ho0)) (Kd.Zw ho1)) (fun _ h_ => h_.1)); replace HO1139 := Yt.mk (Kd.Zv (Kd.Yl (Kd.Yl (Kd.R_old (Qr1 HO1139.out) hb) (Kd.Zw ho0)) (Kd.Zw ho1)) (fun _ h_ => h_.1)); replace HO1147 := Yt.mk (Kd.Zv (Kd.Yl (Kd.Yl (Kd.R_old (Qr1 HO1147.out) hb) (Kd.Zw ho0)) (Kd.Zw ho1)) (fun _ h_ => h_.1)); replace HO1150 := Yt.mk (Kd.Zv (Kd.Yl (Kd.Yl (Kd.R_old (Qr1 HO1150.out) hb) (Kd.Zw ho0)) (Kd.Zw ho1)) (fun _ h_ => h_.1)); replace BK1141 := Yt.mk (Zq (g := gb1141) (o := .cells #[.bool t1133, .slice Ao27 t1134.length co27, .slice Ao28 t1137.length co28] 50 (0, 0)) (Qr12 BK1141.out) hb); replace BK1152 := Yt.mk (Zq (g := gb1152) (o := .cells #[.bool t1144, .slice Ao34 t1145.length co34, .slice Ao35 t1148.length co35] 50 (0, 0)) (Qr12 BK1152.out) hb); replace HB := Yt.mk (Zm (Qa0) hb); (try clear hb); (try clear ho0); (try clear ho1)) | ((with_reducible refine Yk (N := 7) rfl ?_); refine Yo ?hg (N := 7) ?hd (cs := #[.bool false, .slice none 0 0, .slice none 0 0]) (t := 50) ?hr ?_; (case hd => rfl); (case hg => rfl); (case hr => exact Qa9); intro gb1161 hg w40 hbox hb; replace HO1129 := Yt.mk (Kd.Yd (Qr1 HO1129.out) hb); replace HO1132 := Yt.mk (Kd.Yd (Qr1 HO1132.out) hb); replace HO1136 := Yt.mk (Kd.Yd (Qr1 HO1136.out) hb); replace HO1139 := Yt.mk (Kd.Yd (Qr1 HO1139.out) hb); replace HO1147 := Yt.mk (Kd.Yd (Qr1 HO1147.out) hb); replace HO1150 := Yt.mk (Kd.Yd (Qr1 HO1150.out) hb); replace HO1156 := Yt.mk (Kd.Yd (Qr1 HO1156.out) hb); replace HO1159 := Yt.mk (Kd.Yd (Qr1 HO1159.out) hb); have BK1161 := Yt.mk (hbox); have GW1161 := Yt.mk ((by rw [hg]; exact (Zk (Qa0)) : w.heap.size ≤ gb1161)); have GE1161 := Yt.mk ((by rw [hg]; exact (Zk (Qa0)) : w.heap.size ≤ gb1161)); replace HB := Yt.mk (Zm (Qa0) hb); have NB1141_1161 := Yt.mk ((by rw [hg]; exact Nat.ne_of_lt (blk_lt (g := gb1141) (o := .cells #[.bool t1133, .slice Ao27 t1134.length co27, .slice Ao28 t1137.length co28] 50 (0, 0)) (Qr12 BK1141.out)) : gb1141 ≠ gb1161)); have NB1161_1141 := Yt.mk ((by rw [hg]; exact Nat.ne_of_gt (blk_lt (g := gb1141) (o := .cells #[.bool t1133, .slice Ao27 t1134.length co27, .slice Ao28 t1137.length co28] 50 (0, 0)) (Qr12 BK1141.out)) : gb1161 ≠ gb1141)); replace BK1141 := Yt.mk (Zq (g := gb1141) (o := .cells #[.bool t1133, .slice Ao27 t1134.length co27, .slice Ao28 t1137.length co28] 50 (0, 0)) (Qr12 BK1141.out) hb); have NB1152_1161 := Yt.mk ((by rw [hg]; exact Nat.ne_of_lt (blk_lt (g := gb1152) (o := .cells #[.bool t1144, .slice Ao34 t1145.length co34, .slice Ao35 t1148.length co35] 50 (0, 0)) (Qr12 BK1152.out)) : gb1152 ≠ gb1161)); have NB1161_1152 := Yt.mk ((by rw [hg]; exact Nat.ne_of_gt (blk_lt (g := gb1152) (o := .cells #[.bool t1144, .slice Ao34 t1145.length co34, .slice Ao35 t1148.length co35] 50 (0, 0)) (Qr12 BK1152.out)) : gb1161 ≠ gb1152)); replace BK1152 := Yt.mk (Zq (g := gb1152) (o := .cells #[.bool t1144, .slice Ao34 t1145.length co34, .slice Ao35 t1148.length co35] 50 (0, 0)) (Qr12 BK1152.out) hb); clear hb hbox hg; have hnb41 := NB1161_1141.out; have hnc41 := NB1141_1161.out; have hnb42 := NB1161_1152.out; have hnc42 := NB1152_1161.out; have hcz43_0 : w40.cell? ⟨gb1161, 0, none⟩ = some (.bool false) := (Zl BK1161.out 0).trans rfl; have hcz43_1 : w40.cell? ⟨gb1161, 1, none⟩ = some (.slice none 0 0) := (Zl BK1161.out 1).trans rfl; have hcz43_2 : w40.cell? ⟨gb1161, 2, none⟩ = some (.slice none 0 0) := (Zl BK1161.out 2).trans rfl; have hfz43_0 := Zn BK1161.out 0; have hfz43_1 := Zn BK1161.out 1; have hfz43_2 := Zn BK1161.out 2; obtain ⟨Ao44, co44, eo44⟩ := Kd.Zx HO1156.out; subst eo44; obtain ⟨Ao45, co45, eo45⟩ := Kd.Zx HO1159.out; subst eo45))
 have n0_ : Yt (Kd.R (Kd.int .u32) 47 (((w40.setCell ⟨gb1161, 0, none⟩ (.bool t1153)).setCell ⟨gb1161, 1, none⟩ (.slice Ao44 t1154.length co44)).setCell ⟨gb1161, 2, none⟩ (.slice Ao45 t1157.length co45)) w.heap.size (fun k_ => some k_ ≠ (.slice Ao23 y1130.length co23 : Value).ownBlock ∧ some k_ ≠ (.slice Ao27 t1134.length co27 : Value).ownBlock ∧ some k_ ≠ (.slice Ao28 t1137.length co28 : Value).ownBlock ∧ some k_ ≠ (.slice Ao34 t1145.length co34 : Value).ownBlock ∧ some k_ ≠ (.slice Ao35 t1148.length co35 : Value).ownBlock ∧ some k_ ≠ (.slice Ao44 t1154.length co44 : Value).ownBlock ∧ some k_ ≠ (.slice Ao45 t1157.length co45 : Value).ownBlock) (.slice Ao22 y1127.length co22) y1127) := ⟨by (with_reducible repeat (first | apply Kd.Zf | apply Kd.Ze | apply Kd.Zj)); exact Kd.Zv (Kd.Yh (p := ⟨gb1161, 2, none⟩) (Kd.Yh (p := ⟨gb1161, 1, none⟩) (Kd.Yh (p := ⟨gb1161, 0, none⟩) (Kd.Yq HO1129.out BK1161.out (by decide)) (fun _ hk => hk.2) (.bool t1153)) (fun _ hk => hk.2) (.slice Ao44 t1154.length co44)) (fun _ hk => hk.2) (.slice Ao45 t1157.length co45)) (fun _ hk => ⟨hk.1.1.1.1, ⟨hk.1.1.1.2.1, ⟨hk.1.1.1.2.2.1, ⟨hk.1.1.1.2.2.2.1, ⟨hk.1.1.1.2.2.2.2, ⟨hk.1.1.2, hk.1.2⟩⟩⟩⟩⟩⟩)⟩
 have n1_ : Yt (Kd.R (Kd.int .u32) 47 (((w40.setCell ⟨gb1161, 0, none⟩ (.bool t1153)).setCell ⟨gb1161, 1, none⟩ (.slice Ao44 t1154.length co44)).setCell ⟨gb1161, 2, none⟩ (.slice Ao45 t1157.length co45)) w.heap.size (fun k_ => some k_ ≠ (.slice Ao22 y1127.length co22 : Value).ownBlock ∧ some k_ ≠ (.slice Ao27 t1134.length co27 : Value).ownBlock ∧ some k_ ≠ (.slice Ao28 t1137.length co28 : Value).ownBlock ∧ some k_ ≠ (.slice Ao34 t1145.length co34 : Value).ownBlock ∧ some k_ ≠ (.slice Ao35 t1148.length co35 : Value).ownBlock ∧ some k_ ≠ (.slice Ao44 t1154.length co44 : Value).ownBlock ∧ some k_ ≠ (.slice Ao45 t1157.length co45 : Value).ownBlock) (.slice Ao23 y1130.length co23) y1130) := ⟨by (with_reducible repeat (first | apply Kd.Zf | apply Kd.Ze | apply Kd.Zj)); exact Kd.Zv (Kd.Yh (p := ⟨gb1161, 2, none⟩) (Kd.Yh (p := ⟨gb1161, 1, none⟩) (Kd.Yh (p := ⟨gb1161, 0, none⟩) (Kd.Yq HO1132.out BK1161.out (by decide)) (fun _ hk => hk.2) (.bool t1153)) (fun _ hk => hk.2) (.slice Ao44 t1154.length co44)) (fun _ hk => hk.2) (.slice Ao45 t1157.length co45)) (fun _ hk => ⟨hk.1.1.1.1, ⟨hk.1.1.1.2.1, ⟨hk.1.1.1.2.2.1, ⟨hk.1.1.1.2.2.2.1, ⟨hk.1.1.1.2.2.2.2, ⟨hk.1.1.2, hk.1.2⟩⟩⟩⟩⟩⟩)⟩
 have n2_ : Yt (Kd.R (Kd.int .u32) 47 (((w40.setCell ⟨gb1161, 0, none⟩ (.bool t1153)).setCell ⟨gb1161, 1, none⟩ (.slice Ao44 t1154.length co44)).setCell ⟨gb1161, 2, none⟩ (.slice Ao45 t1157.length co45)) w.heap.size (fun k_ => some k_ ≠ (.slice Ao22 y1127.length co22 : Value).ownBlock ∧ some k_ ≠ (.slice Ao23 y1130.length co23 : Value).ownBlock ∧ some k_ ≠ (.slice Ao28 t1137.length co28 : Value).ownBlock ∧ some k_ ≠ (.slice Ao34 t1145.length co34 : Value).ownBlock ∧ some k_ ≠ (.slice Ao35 t1148.length co35 : Value).ownBlock ∧ some k_ ≠ (.slice Ao44 t1154.length co44 : Value).ownBlock ∧ some k_ ≠ (.slice Ao45 t1157.length co45 : Value).ownBlock) (.slice Ao27 t1134.length co27) t1134) := ⟨by (with_reducible repeat (first | apply Kd.Zf | apply Kd.Ze | apply Kd.Zj)); exact Kd.Zv (Kd.Yh (p := ⟨gb1161, 2, none⟩) (Kd.Yh (p := ⟨gb1161, 1, none⟩) (Kd.Yh (p := ⟨gb1161, 0, none⟩) (Kd.Yq HO1136.out BK1161.out (by decide)) (fun _ hk => hk.2) (.bool t1153)) (fun _ hk => hk.2) (.slice Ao44 t1154.length co44)) (fun _ hk => hk.2) (.slice Ao45 t1157.length co45)) (fun _ hk => ⟨hk.1.1.1.1, ⟨hk.1.1.1.2.1, ⟨hk.1.1.1.2.2.1, ⟨hk.1.1.1.2.2.2.1, ⟨hk.1.1.1.2.2.2.2, ⟨hk.1.1.2, hk.1.2⟩⟩⟩⟩⟩⟩)⟩
 have n3_ : Yt (Kd.R (Kd.int .u32) 47 (((w40.setCell ⟨gb1161, 0, none⟩ (.bool t1153)).setCell ⟨gb1161, 1, none⟩ (.slice Ao44 t1154.length co44)).setCell ⟨gb1161, 2, none⟩ (.slice Ao45 t1157.length co45)) w.heap.size (fun k_ => some k_ ≠ (.slice Ao22 y1127.length co22 : Value).ownBlock ∧ some k_ ≠ (.slice Ao23 y1130.length co23 : Value).ownBlock ∧ some k_ ≠ (.slice Ao27 t1134.length co27 : Value).ownBlock ∧ some k_ ≠ (.slice Ao34 t1145.length co34 : Value).ownBlock ∧ some k_ ≠ (.slice Ao35 t1148.length co35 : Value).ownBlock ∧ some k_ ≠ (.slice Ao44 t1154.length co44 : Value).ownBlock ∧ some k_ ≠ (.slice Ao45 t1157.length co45 : Value).ownBlock) (.slice Ao28 t1137.length co28) t1137) := ⟨by (with_reducible repeat (first | apply Kd.Zf | apply Kd.Ze | apply Kd.Zj)); exact Kd.Zv (Kd.Yh (p := ⟨gb1161, 2, none⟩) (Kd.Yh (p := ⟨gb1161, 1, none⟩) (Kd.Yh (p := ⟨gb1161, 0, none⟩) (Kd.Yq HO1139.out BK1161.out (by decide)) (fun _ hk => hk.2) (.bool t1153)) (fun _ hk => hk.2) (.slice Ao44 t1154.length co44)) (fun _ hk => hk.2) (.slice Ao45 t1157.length co45)) (fun _ hk => ⟨hk.1.1.1.1, ⟨hk.1.1.1.2.1, ⟨hk.1.1.1.2.2.1, ⟨hk.1.1.1.2.2.2.1, ⟨hk.1.1.1.2.2.2.2, ⟨hk.1.1.2, hk.1.2⟩⟩⟩⟩⟩⟩)⟩
 have n4_ : Yt (Kd.R (Kd.int .u32) 47 (((w40.setCell ⟨gb1161, 0, none⟩ (.bool t1153)).setCell ⟨gb1161, 1, none⟩ (.slice Ao44 t1154.length co44)).setCell ⟨gb1161, 2, none⟩ (.slice Ao45 t1157.length co45)) w.heap.size (fun k_ => some k_ ≠ (.slice Ao22 y1127.length co22 : Value).ownBlock ∧ some k_ ≠ (.slice Ao23 y1130.length co23 : Value).ownBlock ∧ some k_ ≠ (.slice Ao27 t1134.length co27 : Value).ownBlock ∧ some k_ ≠ (.slice Ao28 t1137.length co28 : Value).ownBlock ∧ some k_ ≠ (.slice Ao35 t1148.length co35 : Value).ownBlock ∧ some k_ ≠ (.slice Ao44 t1154.length co44 : Value).ownBlock ∧ some k_ ≠ (.slice Ao45 t1157.length co45 : Value).ownBlock) (.slice Ao34 t1145.length co34) t1145) := ⟨by (with_reducible repeat (first | apply Kd.Zf | apply Kd.Ze | apply Kd.Zj)); exact Kd.Zv (Kd.Yh (p := ⟨gb1161, 2, none⟩) (Kd.Yh (p := ⟨gb1161, 1, none⟩) (Kd.Yh (p := ⟨gb1161, 0, none⟩) (Kd.Yq HO1147.out BK1161.out (by decide)) (fun _ hk => hk.2) (.bool t1153)) (fun _ hk => hk.2) (.slice Ao44 t1154.length co44)) (fun _ hk => hk.2) (.slice Ao45 t1157.length co45)) (fun _ hk => ⟨hk.1.1.1.1, ⟨hk.1.1.1.2.1, ⟨hk.1.1.1.2.2.1, ⟨hk.1.1.1.2.2.2.1, ⟨hk.1.1.1.2.2.2.2, ⟨hk.1.1.2, hk.1.2⟩⟩⟩⟩⟩⟩)⟩
 have n5_ : Yt (Kd.R (Kd.int .u32) 47 (((w40.setCell ⟨gb1161, 0, none⟩ (.bool t1153)).setCell ⟨gb1161, 1, none⟩ (.slice Ao44 t1154.length co44)).setCell ⟨gb1161, 2, none⟩ (.slice Ao45 t1157.length co45)) w.heap.size (fun k_ => some k_ ≠ (.slice Ao22 y1127.length co22 : Value).ownBlock ∧ some k_ ≠ (.slice Ao23 y1130.length co23 : Value).ownBlock ∧ some k_ ≠ (.slice Ao27 t1134.length co27 : Value).ownBlock ∧ some k_ ≠ (.slice Ao28 t1137.length co28 : Value).ownBlock ∧ some k_ ≠ (.slice Ao34 t1145.length co34 : Value).ownBlock ∧ some k_ ≠ (.slice Ao44 t1154.length co44 : Value).ownBlock ∧ some k_ ≠ (.slice Ao45 t1157.length co45 : Value).ownBlock) (.slice Ao35 t1148.length co35) t1148) := ⟨by (with_reducible repeat (first | apply Kd.Zf | apply Kd.Ze | apply Kd.Zj)); exact Kd.Zv (Kd.Yh (p := ⟨gb1161, 2, none⟩) (Kd.Yh (p := ⟨gb1161, 1, none⟩) (Kd.Yh (p := ⟨gb1161, 0, none⟩) (Kd.Yq HO1150.out BK1161.out (by decide)) (fun _ hk => hk.2) (.bool t1153)) (fun _ hk => hk.2) (.slice Ao44 t1154.length co44)) (fun _ hk => hk.2) (.slice Ao45 t1157.length co45)) (fun _ hk => ⟨hk.1.1.1.1, ⟨hk.1.1.1.2.1, ⟨hk.1.1.1.2.2.1, ⟨hk.1.1.1.2.2.2.1, ⟨hk.1.1.1.2.2.2.2, ⟨hk.1.1.2, hk.1.2⟩⟩⟩⟩⟩⟩)⟩
 have n6_ : Yt (Kd.R (Kd.int .u32) 47 (((w40.setCell ⟨gb1161, 0, none⟩ (.bool t1153)).setCell ⟨gb1161, 1, none⟩ (.slice Ao44 t1154.length co44)).setCell ⟨gb1161, 2, none⟩ (.slice Ao45 t1157.length co45)) w.heap.size (fun k_ => some k_ ≠ (.slice Ao22 y1127.length co22 : Value).ownBlock ∧ some k_ ≠ (.slice Ao23 y1130.length co23 : Value).ownBlock ∧ some k_ ≠ (.slice Ao27 t1134.length co27 : Value).ownBlock ∧ some k_ ≠ (.slice Ao28 t1137.length co28 : Value).ownBlock ∧ some k_ ≠ (.slice Ao34 t1145.length co34 : Value).ownBlock ∧ some k_ ≠ (.slice Ao35 t1148.length co35 : Value).ownBlock ∧ some k_ ≠ (.slice Ao45 t1157.length co45 : Value).ownBlock) (.slice Ao44 t1154.length co44) t1154) := ⟨by (with_reducible repeat (first | apply Kd.Zf | apply Kd.Ze | apply Kd.Zj)); exact Kd.Zv (Kd.Yh (p := ⟨gb1161, 2, none⟩) (Kd.Yh (p := ⟨gb1161, 1, none⟩) (Kd.Yh (p := ⟨gb1161, 0, none⟩) (Kd.Yq HO1156.out BK1161.out (by decide)) (fun _ hk => hk.2) (.bool t1153)) (fun _ hk => hk.2) (.slice Ao44 t1154.length co44)) (fun _ hk => hk.2) (.slice Ao45 t1157.length co45)) (fun _ hk => ⟨hk.1.1.1.1.1.1.2, ⟨hk.1.1.1.1.1.2, ⟨hk.1.1.1.1.2, ⟨hk.1.1.1.2, ⟨hk.1.1.2, ⟨hk.1.2, hk.1.1.1.1.1.1.1⟩⟩⟩⟩⟩⟩)⟩
 have n7_ : Yt (Kd.R (Kd.int .u32) 47 (((w40.setCell ⟨gb1161, 0, none⟩ (.bool t1153)).setCell ⟨gb1161, 1, none⟩ (.slice Ao44 t1154.length co44)).setCell ⟨gb1161, 2, none⟩ (.slice Ao45 t1157.length co45)) w.heap.size (fun k_ => some k_ ≠ (.slice Ao22 y1127.length co22 : Value).ownBlock ∧ some k_ ≠ (.slice Ao23 y1130.length co23 : Value).ownBlock ∧ some k_ ≠ (.slice Ao27 t1134.length co27 : Value).ownBlock ∧ some k_ ≠ (.slice Ao28 t1137.length co28 : Value).ownBlock ∧ some k_ ≠ (.slice Ao34 t1145.length co34 : Value).ownBlock ∧ some k_ ≠ (.slice Ao35 t1148.length co35 : Value).ownBlock ∧ some k_ ≠ (.slice Ao44 t1154.length co44 : Value).ownBlock) (.slice Ao45 t1157.length co45) t1157) := ⟨by (with_reducible repeat (first | apply Kd.Zf | apply Kd.Ze | apply Kd.Zj)); exact Kd.Zv (Kd.Yh (p := ⟨gb1161, 2, none⟩) (Kd.Yh (p := ⟨gb1161, 1, none⟩) (Kd.Yh (p := ⟨gb1161, 0, none⟩) (Kd.Yq HO1159.out BK1161.out (by decide)) (fun _ hk => hk.2) (.bool t1153)) (fun _ hk => hk.2) (.slice Ao44 t1154.length co44)) (fun _ hk => hk.2) (.slice Ao45 t1157.length co45)) (fun _ hk => ⟨hk.1.1.1.1.1.1.2, ⟨hk.1.1.1.1.1.2, ⟨hk.1.1.1.1.2, ⟨hk.1.1.1.2, ⟨hk.1.1.2, ⟨hk.1.2, hk.1.1.1.1.1.1.1⟩⟩⟩⟩⟩⟩)⟩
 have n8_ : Yt ((((w40.setCell ⟨gb1161, 0, none⟩ (.bool t1153)).setCell ⟨gb1161, 1, none⟩ (.slice Ao44 t1154.length co44)).setCell ⟨gb1161, 2, none⟩ (.slice Ao45 t1157.length co45)).heap[gb1141]? = some (.cells #[.bool t1133, .slice Ao27 t1134.length co27, .slice Ao28 t1137.length co28] 50 (0, 0))) := ⟨by (with_reducible repeat (first | refine Zg ?_ _ | refine Zi ?_ | refine Zh ?_ _)); refine blk_far ?_ NB1141_1161.out _; (with_reducible repeat (first | refine Zg ?_ _ | refine Zi ?_ | refine Zh ?_ _)); refine blk_far ?_ NB1141_1161.out _; (with_reducible repeat (first | refine Zg ?_ _ | refine Zi ?_ | refine Zh ?_ _)); refine blk_far ?_ NB1141_1161.out _; (with_reducible repeat (first | refine Zg ?_ _ | refine Zi ?_ | refine Zh ?_ _)); exact BK1141.out⟩
 have n9_ : Yt ((((w40.setCell ⟨gb1161, 0, none⟩ (.bool t1153)).setCell ⟨gb1161, 1, none⟩ (.slice Ao44 t1154.length co44)).setCell ⟨gb1161, 2, none⟩ (.slice Ao45 t1157.length co45)).heap[gb1152]? = some (.cells #[.bool t1144, .slice Ao34 t1145.length co34, .slice Ao35 t1148.length co35] 50 (0, 0))) := ⟨by (with_reducible repeat (first | refine Zg ?_ _ | refine Zi ?_ | refine Zh ?_ _)); refine blk_far ?_ NB1152_1161.out _; (with_reducible repeat (first | refine Zg ?_ _ | refine Zi ?_ | refine Zh ?_ _)); refine blk_far ?_ NB1152_1161.out _; (with_reducible repeat (first | refine Zg ?_ _ | refine Zi ?_ | refine Zh ?_ _)); refine blk_far ?_ NB1152_1161.out _; (with_reducible repeat (first | refine Zg ?_ _ | refine Zi ?_ | refine Zh ?_ _)); exact BK1152.out⟩
 have n10_ : Yt ((((w40.setCell ⟨gb1161, 0, none⟩ (.bool t1153)).setCell ⟨gb1161, 1, none⟩ (.slice Ao44 t1154.length co44)).setCell ⟨gb1161, 2, none⟩ (.slice Ao45 t1157.length co45)).heap[gb1161]? = some (.cells #[.bool t1153, .slice Ao44 t1154.length co44, .slice Ao45 t1157.length co45] 50 (0, 0))) := ⟨by (with_reducible repeat (first | refine Zg ?_ _ | refine Zi ?_ | refine Zh ?_ _)); refine Ym (cs := #[.bool t1153, .slice Ao44 t1154.length co44, .slice none 0 0]) ?_ 2 _ rfl; (with_reducible repeat (first | refine Zg ?_ _ | refine Zi ?_ | refine Zh ?_ _)); refine Ym (cs := #[.bool t1153, .slice none 0 0, .slice none 0 0]) ?_ 1 _ rfl; (with_reducible repeat (first | refine Zg ?_ _ | refine Zi ?_ | refine Zh ?_ _)); refine Ym (cs := #[.bool false, .slice none 0 0, .slice none 0 0]) ?_ 0 _ rfl; (with_reducible repeat (first | refine Zg ?_ _ | refine Zi ?_ | refine Zh ?_ _)); exact BK1161.out⟩
 have n11_ : Yt (Below w.heap.size w (((w40.setCell ⟨gb1161, 0, none⟩ (.bool t1153)).setCell ⟨gb1161, 1, none⟩ (.slice Ao44 t1154.length co44)).setCell ⟨gb1161, 2, none⟩ (.slice Ao45 t1157.length co45))) := ⟨Qa0⟩
 (try clear HO1129)
 (try clear HO1132)
 (try clear HO1136)
 (try clear HO1139)
 (try clear HO1147)
 (try clear HO1150)
 (try clear HO1156)
 (try clear HO1159)
 (try clear BK1141)
 (try clear BK1152)
 (try clear BK1161)
 (try clear HB)
 generalize (((w40.setCell ⟨gb1161, 0, none⟩ (.bool t1153)).setCell ⟨gb1161, 1, none⟩ (.slice Ao44 t1154.length co44)).setCell ⟨gb1161, 2, none⟩ (.slice Ao45 t1157.length co45)) = w46 at n0_ n1_ n2_ n3_ n4_ n5_ n6_ n7_ n8_ n9_ n10_ n11_ ⊢
 have HO1129 := n0_
 have HO1132 := n1_
 have HO1136 := n2_
 have HO1139 := n3_
 have HO1147 := n4_
 have HO1150 := n5_
 have HO1156 := n6_
 have HO1159 := n7_
 have BK1141 := n8_
 have BK1152 := n9_
 have BK1161 := n10_
 have HB := n11_
 clear n0_ n1_ n2_ n3_ n4_ n5_ n6_ n7_ n8_ n9_ n10_ n11_
 replace HO1129 := Yt.mk (Kd.Zj HO1129.out)
 replace HO1132 := Yt.mk (Kd.Zj HO1132.out)
 replace HO1136 := Yt.mk (Kd.Zj HO1136.out)
 replace HO1139 := Yt.mk (Kd.Zj HO1139.out)
 replace HO1147 := Yt.mk (Kd.Zj HO1147.out)
 replace HO1150 := Yt.mk (Kd.Zj HO1150.out)
 replace HO1156 := Yt.mk (Kd.Zj HO1156.out)
 replace HO1159 := Yt.mk (Kd.Zj HO1159.out)
 replace BK1141 := Yt.mk (Zi BK1141.out)
 replace BK1152 := Yt.mk (Zi BK1152.out)
 replace BK1161 := Yt.mk (Zi BK1161.out)
 replace HB := Yt.mk (Zc HB.out)
 refine start_ (n := 19) (S := fun w' => w'.cell? ⟨gb1161, 0, none⟩ = some (.bool t1153) ∧ w'.cell? ⟨gb1161, 1, none⟩ = some (.slice Ao44 t1154.length co44) ∧ w'.cell? ⟨gb1161, 2, none⟩ = some (.slice Ao45 t1157.length co45) ∧ w'.cell? ⟨gb1141, 0, none⟩ = some (.bool t1133) ∧ w'.cell? ⟨gb1141, 1, none⟩ = some (.slice Ao27 t1134.length co27) ∧ w'.cell? ⟨gb1141, 2, none⟩ = some (.slice Ao28 t1137.length co28) ∧ w'.cell? ⟨gb1152, 0, none⟩ = some (.bool t1144) ∧ w'.cell? ⟨gb1152, 1, none⟩ = some (.slice Ao34 t1145.length co34) ∧ w'.cell? ⟨gb1152, 2, none⟩ = some (.slice Ao35 t1148.length co35)) (ds := []) #[false, false, false, false, false, false, false, false, false, false, false, false, false, false, false, false, false, false, false] Qa8 rfl rfl ⟨(Zl BK1161.out 0).trans rfl, (Zl BK1161.out 1).trans rfl, (Zl BK1161.out 2).trans rfl, (Zl BK1141.out 0).trans rfl, (Zl BK1141.out 1).trans rfl, (Zl BK1141.out 2).trans rfl, (Zl BK1152.out 0).trans rfl, (Zl BK1152.out 1).trans rfl, (Zl BK1152.out 2).trans rfl⟩ (fun hHeld => ?_); refine with_tabW w2_wakes.tab7 w2_wakes.bits7 (fun HT_ HW_ => ?_)
 generalize w46.drew = w47 at HO1129 HO1132 HO1136 HO1139 HO1147 HO1150 HO1156 HO1159 BK1141 BK1152 BK1161 HB hHeld ⊢
 refine take_ (i := 0) (N := some 48) (v := ?_) (a' := ?_) #[true, false, false, false, false, false, false, false, false, false, false, false, false, false, false, false, false, false, false] rfl rfl (take_ofW HT_.out HW_.out Qa8) (fun _ _ _ h => h) (Or.inl ⟨by rfl, ?_⟩) hHeld ?_ ?_
 rotate_left
 ·rintro w' ⟨s0, s1, s2, s3, s4, s5, s6, s7, s8⟩
  go_simp
  with_reducible rfl
 rotate_left
 ·simp only [Act.put, List.setIfInBounds_toArray, List.set_cons_zero, List.set_cons_succ, Yi, Yj]
  rfl
 refine one_ (i := 1) (N := some 49) #[true, true, false, false, false, false, false, false, false, false, false, false, false, false, false, false, false, false, false] rfl rfl (one_of HT_.out Qa8) (by decide) (fun K hK => ?_)
 refine goes_ Try.func55 Qa8 rfl #[.int .i64 0] (by rfl) rfl rfl Qa2 ?_
 with_reducible refine (ratio_Of.calls k 0 t1162 t1163 t1166 _ A10.out).mono ?_
 rintro e w48 ⟨v1164, v1167, rfl, ho0, ho1, hb⟩
 refine ⟨_, rfl, ?_⟩
 have HO1165 := Yt.mk (Kd.Yb (Kd.Ya (Kd.Ya (Kd.Ya (Kd.Ya (Kd.Ya (Kd.Ya (Kd.Ya (Kd.Ya ho0 (Kd.R_lt (Qr1 HO1129.out))) (Kd.R_lt (Qr1 HO1132.out))) (Kd.R_lt (Qr1 HO1136.out))) (Kd.R_lt (Qr1 HO1139.out))) (Kd.R_lt (Qr1 HO1147.out))) (Kd.R_lt (Qr1 HO1150.out))) (Kd.R_lt (Qr1 HO1156.out))) (Kd.R_lt (Qr1 HO1159.out))) (Zk (Qa0)))
 have HO1168 := Yt.mk (Kd.Yb (Kd.Ya (Kd.Ya (Kd.Ya (Kd.Ya (Kd.Ya (Kd.Ya (Kd.Ya (Kd.Ya ho1 (Kd.R_lt (Qr1 HO1129.out))) (Kd.R_lt (Qr1 HO1132.out))) (Kd.R_lt (Qr1 HO1136.out))) (Kd.R_lt (Qr1 HO1139.out))) (Kd.R_lt (Qr1 HO1147.out))) (Kd.R_lt (Qr1 HO1150.out))) (Kd.R_lt (Qr1 HO1156.out))) (Kd.R_lt (Qr1 HO1159.out))) (Zk (Qa0)))
 replace HO1129 := Yt.mk (Kd.Zv (Kd.Yl (Kd.Yl (Kd.R_old (Qr1 HO1129.out) hb) (Kd.Zw ho0)) (Kd.Zw ho1)) (fun _ h_ => h_.1))
 replace HO1132 := Yt.mk (Kd.Zv (Kd.Yl (Kd.Yl (Kd.R_old (Qr1 HO1132.out) hb) (Kd.Zw ho0)) (Kd.Zw ho1)) (fun _ h_ => h_.1))
 replace HO1136 := Yt.mk (Kd.Zv (Kd.Yl (Kd.Yl (Kd.R_old (Qr1 HO1136.out) hb) (Kd.Zw ho0)) (Kd.Zw ho1)) (fun _ h_ => h_.1))
 replace HO1139 := Yt.mk (Kd.Zv (Kd.Yl (Kd.Yl (Kd.R_old (Qr1 HO1139.out) hb) (Kd.Zw ho0)) (Kd.Zw ho1)) (fun _ h_ => h_.1))
 replace HO1147 := Yt.mk (Kd.Zv (Kd.Yl (Kd.Yl (Kd.R_old (Qr1 HO1147.out) hb) (Kd.Zw ho0)) (Kd.Zw ho1)) (fun _ h_ => h_.1))
 replace HO1150 := Yt.mk (Kd.Zv (Kd.Yl (Kd.Yl (Kd.R_old (Qr1 HO1150.out) hb) (Kd.Zw ho0)) (Kd.Zw ho1)) (fun _ h_ => h_.1))
 replace HO1156 := Yt.mk (Kd.Zv (Kd.Yl (Kd.Yl (Kd.R_old (Qr1 HO1156.out) hb) (Kd.Zw ho0)) (Kd.Zw ho1)) (fun _ h_ => h_.1))
 replace HO1159 := Yt.mk (Kd.Zv (Kd.Yl (Kd.Yl (Kd.R_old (Qr1 HO1159.out) hb) (Kd.Zw ho0)) (Kd.Zw ho1)) (fun _ h_ => h_.1))
 replace BK1141 := Yt.mk (Zq (g := gb1141) (o := .cells #[.bool t1133, .slice Ao27 t1134.length co27, .slice Ao28 t1137.length co28] 50 (0, 0)) (Qr12 BK1141.out) hb)
 replace BK1152 := Yt.mk (Zq (g := gb1152) (o := .cells #[.bool t1144, .slice Ao34 t1145.length co34, .slice Ao35 t1148.length co35] 50 (0, 0)) (Qr12 BK1152.out) hb)
 replace BK1161 := Yt.mk (Zq (g := gb1161) (o := .cells #[.bool t1153, .slice Ao44 t1154.length co44, .slice Ao45 t1157.length co45] 50 (0, 0)) (Qr12 BK1161.out) hb)
 replace HB := Yt.mk (Zm (Qa0) hb)
 (try clear hb)
 (try clear hb2)
 (try clear hk)
 (try clear hi)
 (try clear ho0)
 (try clear ho1)
 obtain ⟨Ao49, co49, eo49⟩ := Kd.Zx HO1165.out
 (first | subst eo49 | (injection eo49 with f1_ f2_ f3_; have f4_ := f1_.symm; have f5_ := f3_.symm; clear f1_ f2_ f3_; subst f4_; subst f5_))
 obtain ⟨Ao50, co50, eo50⟩ := Kd.Zx HO1168.out
 (first | subst eo50 | (injection eo50 with f1_ f2_ f3_; have f4_ := f1_.symm; have f5_ := f3_.symm; clear f1_ f2_ f3_; subst f4_; subst f5_))
 refine hK.out _ _ ⟨(Zl BK1161.out 0).trans rfl, (Zl BK1161.out 1).trans rfl, (Zl BK1161.out 2).trans rfl, (Zl BK1141.out 0).trans rfl, (Zl BK1141.out 1).trans rfl, (Zl BK1141.out 2).trans rfl, (Zl BK1152.out 0).trans rfl, (Zl BK1152.out 1).trans rfl, (Zl BK1152.out 2).trans rfl⟩ (fun hHeld => ?_)
 clear hK K
 refine norm_ (a' := ?_) ?_ ?_
 rotate_left
 ·show Act.put _ (some 49) _ = _
  simp only [Act.put, List.setIfInBounds_toArray, List.set_cons_zero, List.set_cons_succ, Yi, Yj]
  rfl
 refine one_ (i := 2) (N := some 50) #[true, true, true, false, false, false, false, false, false, false, false, false, false, false, false, false, false, false, false] rfl rfl (one_of HT_.out Qa8) (by decide) (fun K hK => ?_)
 refine goes_ Try.func53 Qa8 rfl #[.agg #[.bool t1153, .slice Ao44 t1154.length co44, .slice Ao45 t1157.length co45], .agg #[.bool t1162, .slice Ao49 t1163.length co49, .slice Ao50 t1166.length co50]] (by rfl) rfl rfl Qa2 ?_
 with_reducible refine (ratio_Same.calls k t1153 _ _ t1154 _ _ t1157 t1162 _ _ t1163 _ _ t1166 true _ ?side1 ?side2 ?side3 ?side4 ?side5 ?side6 ?side7 ?side8 A11.out).mono ?_
 (case side1 => exact Qe11 (Kd.Zs HO1156.out).2.2)
 (case side2 => exact (Kd.Zs HO1156.out).2.1)
 (case side3 => exact Qe11 (Kd.Zs HO1159.out).2.2)
 (case side4 => exact (Kd.Zs HO1159.out).2.1)
 (case side5 => exact Qe11 (Kd.Zs HO1165.out).2.2)
 (case side6 => exact (Kd.Zs HO1165.out).2.1)
 (case side7 => exact Qe11 (Kd.Zs HO1168.out).2.2)
 (case side8 => exact (Kd.Zs HO1168.out).2.1)
 rintro e w51 ⟨rfl, hb⟩
 refine ⟨_, rfl, ?_⟩
 replace HO1129 := Yt.mk (Kd.Yd (Qr1 HO1129.out) hb)
 replace HO1132 := Yt.mk (Kd.Yd (Qr1 HO1132.out) hb)
 replace HO1136 := Yt.mk (Kd.Yd (Qr1 HO1136.out) hb)
 replace HO1139 := Yt.mk (Kd.Yd (Qr1 HO1139.out) hb)
 replace HO1147 := Yt.mk (Kd.Yd (Qr1 HO1147.out) hb)
 replace HO1150 := Yt.mk (Kd.Yd (Qr1 HO1150.out) hb)
 replace HO1156 := Yt.mk (Kd.Yd (Qr1 HO1156.out) hb)
 replace HO1159 := Yt.mk (Kd.Yd (Qr1 HO1159.out) hb)
 replace HO1165 := Yt.mk (Kd.Yd (Qr1 HO1165.out) hb)
 replace HO1168 := Yt.mk (Kd.Yd (Qr1 HO1168.out) hb)
 replace BK1141 := Yt.mk (Zq (g := gb1141) (o := .cells #[.bool t1133, .slice Ao27 t1134.length co27, .slice Ao28 t1137.length co28] 50 (0, 0)) (Qr12 BK1141.out) hb)
 replace BK1152 := Yt.mk (Zq (g := gb1152) (o := .cells #[.bool t1144, .slice Ao34 t1145.length co34, .slice Ao35 t1148.length co35] 50 (0, 0)) (Qr12 BK1152.out) hb)
 replace BK1161 := Yt.mk (Zq (g := gb1161) (o := .cells #[.bool t1153, .slice Ao44 t1154.length co44, .slice Ao45 t1157.length co45] 50 (0, 0)) (Qr12 BK1161.out) hb)
 replace HB := Yt.mk (Zm (Qa0) hb)
 (try clear hb)
 (try clear hb2)
 (try clear hk)
 (try clear hi)
 refine hK.out _ _ ⟨(Zl BK1161.out 0).trans rfl, (Zl BK1161.out 1).trans rfl, (Zl BK1161.out 2).trans rfl, (Zl BK1141.out 0).trans rfl, (Zl BK1141.out 1).trans rfl, (Zl BK1141.out 2).trans rfl, (Zl BK1152.out 0).trans rfl, (Zl BK1152.out 1).trans rfl, (Zl BK1152.out 2).trans rfl⟩ (fun hHeld => ?_)
 clear hK K
 refine norm_ (a' := ?_) ?_ ?_
 rotate_left
 ·show Act.put _ (some 50) _ = _
  simp only [Act.put, List.setIfInBounds_toArray, List.set_cons_zero, List.set_cons_succ, Yi, Yj]
  rfl
 refine pure_ (i := 3) (N := some 51) (v := ?_) (a' := ?_) #[true, true, true, true, false, false, false, false, false, false, false, false, false, false, false, false, false, false, false] rfl rfl (any_of HT_.out Qa8) (fun _ _ _ h => h) (Or.inl ⟨by rfl, ?_⟩) ?_ ?_
 rotate_left
 ·intro w'
  go_simp
  with_reducible rfl
 rotate_left
 ·simp only [Act.put, List.setIfInBounds_toArray, List.set_cons_zero, List.set_cons_succ, Yi, Yj]
  rfl
 refine take_ (i := 4) (N := some 52) (v := ?_) (a' := ?_) #[true, true, true, true, true, false, false, false, false, false, false, false, false, false, false, false, false, false, false] rfl rfl (take_ofW HT_.out HW_.out Qa8) (fun _ _ _ h => h) (Or.inl ⟨by rfl, ?_⟩) hHeld ?_ ?_
 rotate_left
 ·rintro w' ⟨s0, s1, s2, s3, s4, s5, s6, s7, s8⟩
  go_simp
  with_reducible rfl
 rotate_left
 ·simp only [Act.put, List.setIfInBounds_toArray, List.set_cons_zero, List.set_cons_succ, Yi, Yj]
  rfl
 refine one_ (i := 5) (N := some 53) #[true, true, true, true, true, true, false, false, false, false, false, false, false, false, false, false, false, false, false] rfl rfl (one_of HT_.out Qa8) (by decide) (fun K hK => ?_)
 refine goes_ Try.func50 Qa8 rfl #[.agg #[.bool t1133, .slice Ao27 t1134.length co27, .slice Ao28 t1137.length co28]] (by rfl) rfl rfl Qa2 ?_
 with_reducible refine (ratio_Form.calls k t1133 _ _ t1134 _ _ t1137 true _ ?side1 ?side2 ?side3 ?side4 A13.out).mono ?_
 (case side1 => exact Qe11 (Kd.Zs HO1136.out).2.2)
 (case side2 => exact (Kd.Zs HO1136.out).2.1)
 (case side3 => exact Qe11 (Kd.Zs HO1139.out).2.2)
 (case side4 => exact (Kd.Zs HO1139.out).2.1)
 rintro e w52 ⟨rfl, hb⟩
 refine ⟨_, rfl, ?_⟩
 replace HO1129 := Yt.mk (Kd.Yd (Qr1 HO1129.out) hb)
 replace HO1132 := Yt.mk (Kd.Yd (Qr1 HO1132.out) hb)
 replace HO1136 := Yt.mk (Kd.Yd (Qr1 HO1136.out) hb)
 replace HO1139 := Yt.mk (Kd.Yd (Qr1 HO1139.out) hb)
 replace HO1147 := Yt.mk (Kd.Yd (Qr1 HO1147.out) hb)
 replace HO1150 := Yt.mk (Kd.Yd (Qr1 HO1150.out) hb)
 replace HO1156 := Yt.mk (Kd.Yd (Qr1 HO1156.out) hb)
 replace HO1159 := Yt.mk (Kd.Yd (Qr1 HO1159.out) hb)
 replace HO1165 := Yt.mk (Kd.Yd (Qr1 HO1165.out) hb)
 replace HO1168 := Yt.mk (Kd.Yd (Qr1 HO1168.out) hb)
 replace BK1141 := Yt.mk (Zq (g := gb1141) (o := .cells #[.bool t1133, .slice Ao27 t1134.length co27, .slice Ao28 t1137.length co28] 50 (0, 0)) (Qr12 BK1141.out) hb)
 replace BK1152 := Yt.mk (Zq (g := gb1152) (o := .cells #[.bool t1144, .slice Ao34 t1145.length co34, .slice Ao35 t1148.length co35] 50 (0, 0)) (Qr12 BK1152.out) hb)
 replace BK1161 := Yt.mk (Zq (g := gb1161) (o := .cells #[.bool t1153, .slice Ao44 t1154.length co44, .slice Ao45 t1157.length co45] 50 (0, 0)) (Qr12 BK1161.out) hb)
 replace HB := Yt.mk (Zm (Qa0) hb)
 (try clear hb)
 (try clear hb2)
 (try clear hk)
 (try clear hi)
 refine hK.out _ _ ⟨(Zl BK1161.out 0).trans rfl, (Zl BK1161.out 1).trans rfl, (Zl BK1161.out 2).trans rfl, (Zl BK1141.out 0).trans rfl, (Zl BK1141.out 1).trans rfl, (Zl BK1141.out 2).trans rfl, (Zl BK1152.out 0).trans rfl, (Zl BK1152.out 1).trans rfl, (Zl BK1152.out 2).trans rfl⟩ (fun hHeld => ?_)
 clear hK K
 refine norm_ (a' := ?_) ?_ ?_
 rotate_left
 ·show Act.put _ (some 53) _ = _
  simp only [Act.put, List.setIfInBounds_toArray, List.set_cons_zero, List.set_cons_succ, Yi, Yj]
  rfl
 refine pure_ (i := 6) (N := some 54) (v := ?_) (a' := ?_) #[true, true, true, true, true, true, true, false, false, false, false, false, false, false, false, false, false, false, false] rfl rfl (any_of HT_.out Qa8) (fun _ _ _ h => h) (Or.inl ⟨by rfl, ?_⟩) ?_ ?_
 rotate_left
 ·intro w'
  go_simp
  with_reducible rfl
 rotate_left
 ·simp only [Act.put, List.setIfInBounds_toArray, List.set_cons_zero, List.set_cons_succ, Yi, Yj]
  rfl
 refine pure_ (i := 7) (N := some 55) (v := ?_) (a' := ?_) #[true, true, true, true, true, true, true, true, false, false, false, false, false, false, false, false, false, false, false] rfl rfl (any_of HT_.out Qa8) (fun _ _ _ h => h) (Or.inl ⟨by rfl, ?_⟩) ?_ ?_
 rotate_left
 ·intro w'
  go_simp
  with_reducible rfl
 rotate_left
 ·simp only [Act.put, List.setIfInBounds_toArray, List.set_cons_zero, List.set_cons_succ, Yi, Yj]
  rfl
 refine pure_ (i := 8) (N := some 56) (v := ?_) (a' := ?_) #[true, true, true, true, true, true, true, true, true, false, false, false, false, false, false, false, false, false, false] rfl rfl (any_of HT_.out Qa8) (fun _ _ _ h => h) (Or.inl ⟨by rfl, ?_⟩) ?_ ?_
 rotate_left
 ·intro w'
  go_simp
  with_reducible rfl
 rotate_left
 ·simp only [Act.put, List.setIfInBounds_toArray, List.set_cons_zero, List.set_cons_succ, Yi, Yj]
  rfl
 refine one_ (i := 9) (N := some 57) #[true, true, true, true, true, true, true, true, true, true, false, false, false, false, false, false, false, false, false] rfl rfl (one_of HT_.out Qa8) (by decide) (fun K hK => ?_)
 refine goes_ Try.func50 Qa8 rfl #[.agg #[.bool false, .slice none 0 0, .slice none 0 0]] (by rfl) rfl rfl Qa2 ?_
 refine (ratio_Form.calls k false _ _ ([] : List Int) _ _ ([] : List Int) false _ ?side1 ?side2 ?side3 ?side4 A15.out).mono ?_
 (case side1 => exact Kd.C_nil _ _)
 (case side2 => exact Nat.le_refl _)
 (case side3 => exact Kd.C_nil _ _)
 (case side4 => exact Nat.le_refl _)
 rintro e w53 ⟨rfl, hb⟩
 refine ⟨_, rfl, ?_⟩
 replace HO1129 := Yt.mk (Kd.Yd (Qr1 HO1129.out) hb)
 replace HO1132 := Yt.mk (Kd.Yd (Qr1 HO1132.out) hb)
 replace HO1136 := Yt.mk (Kd.Yd (Qr1 HO1136.out) hb)
 replace HO1139 := Yt.mk (Kd.Yd (Qr1 HO1139.out) hb)
 replace HO1147 := Yt.mk (Kd.Yd (Qr1 HO1147.out) hb)
 replace HO1150 := Yt.mk (Kd.Yd (Qr1 HO1150.out) hb)
 replace HO1156 := Yt.mk (Kd.Yd (Qr1 HO1156.out) hb)
 replace HO1159 := Yt.mk (Kd.Yd (Qr1 HO1159.out) hb)
 replace HO1165 := Yt.mk (Kd.Yd (Qr1 HO1165.out) hb)
 replace HO1168 := Yt.mk (Kd.Yd (Qr1 HO1168.out) hb)
 replace BK1141 := Yt.mk (Zq (g := gb1141) (o := .cells #[.bool t1133, .slice Ao27 t1134.length co27, .slice Ao28 t1137.length co28] 50 (0, 0)) (Qr12 BK1141.out) hb)
 replace BK1152 := Yt.mk (Zq (g := gb1152) (o := .cells #[.bool t1144, .slice Ao34 t1145.length co34, .slice Ao35 t1148.length co35] 50 (0, 0)) (Qr12 BK1152.out) hb)
 replace BK1161 := Yt.mk (Zq (g := gb1161) (o := .cells #[.bool t1153, .slice Ao44 t1154.length co44, .slice Ao45 t1157.length co45] 50 (0, 0)) (Qr12 BK1161.out) hb)
 replace HB := Yt.mk (Zm (Qa0) hb)
 (try clear hb)
 (try clear hb2)
 (try clear hk)
 (try clear hi)
 refine hK.out _ _ ⟨(Zl BK1161.out 0).trans rfl, (Zl BK1161.out 1).trans rfl, (Zl BK1161.out 2).trans rfl, (Zl BK1141.out 0).trans rfl, (Zl BK1141.out 1).trans rfl, (Zl BK1141.out 2).trans rfl, (Zl BK1152.out 0).trans rfl, (Zl BK1152.out 1).trans rfl, (Zl BK1152.out 2).trans rfl⟩ (fun hHeld => ?_)
 clear hK K
 refine norm_ (a' := ?_) ?_ ?_
 rotate_left
 ·show Act.put _ (some 57) _ = _
  simp only [Act.put, List.setIfInBounds_toArray, List.set_cons_zero, List.set_cons_succ, Yi, Yj]
  rfl
 refine pure_ (i := 10) (N := some 58) (v := ?_) (a' := ?_) #[true, true, true, true, true, true, true, true, true, true, true, false, false, false, false, false, false, false, false] rfl rfl (any_of HT_.out Qa8) (fun _ _ _ h => h) (Or.inl ⟨by rfl, ?_⟩) ?_ ?_
 rotate_left
 ·intro w'
  go_simp
  with_reducible rfl
 rotate_left
 ·simp only [Act.put, List.setIfInBounds_toArray, List.set_cons_zero, List.set_cons_succ, Yi, Yj]
  rfl
 refine pure_ (i := 11) (N := some 59) (v := ?_) (a' := ?_) #[true, true, true, true, true, true, true, true, true, true, true, true, false, false, false, false, false, false, false] rfl rfl (any_of HT_.out Qa8) (fun _ _ _ h => h) (Or.inl ⟨by rfl, ?_⟩) ?_ ?_
 rotate_left
 ·intro w'
  go_simp
  with_reducible rfl
 rotate_left
 ·simp only [Act.put, List.setIfInBounds_toArray, List.set_cons_zero, List.set_cons_succ, Yi, Yj]
  rfl
 refine pure_ (i := 12) (N := some 60) (v := ?_) (a' := ?_) #[true, true, true, true, true, true, true, true, true, true, true, true, true, false, false, false, false, false, false] rfl rfl (any_of HT_.out Qa8) (fun _ _ _ h => h) (Or.inl ⟨by rfl, ?_⟩) ?_ ?_
 rotate_left
 ·intro w'
  go_simp
  with_reducible rfl
 rotate_left
 ·simp only [Act.put, List.setIfInBounds_toArray, List.set_cons_zero, List.set_cons_succ, Yi, Yj]
  rfl
 refine take_ (i := 13) (N := some 61) (v := ?_) (a' := ?_) #[true, true, true, true, true, true, true, true, true, true, true, true, true, true, false, false, false, false, false] rfl rfl (take_ofW HT_.out HW_.out Qa8) (fun _ _ _ h => h) (Or.inl ⟨by rfl, ?_⟩) hHeld ?_ ?_
 rotate_left
 ·rintro w' ⟨s0, s1, s2, s3, s4, s5, s6, s7, s8⟩
  go_simp
  with_reducible rfl
 rotate_left
 ·simp only [Act.put, List.setIfInBounds_toArray, List.set_cons_zero, List.set_cons_succ, Yi, Yj]
  rfl
 refine take_ (i := 14) (N := some 62) (v := ?_) (a' := ?_) #[true, true, true, true, true, true, true, true, true, true, true, true, true, true, true, false, false, false, false] rfl rfl (take_ofW HT_.out HW_.out Qa8) (fun _ _ _ h => h) (Or.inl ⟨by rfl, ?_⟩) hHeld ?_ ?_
 rotate_left
 ·rintro w' ⟨s0, s1, s2, s3, s4, s5, s6, s7, s8⟩
  go_simp
  with_reducible rfl
 rotate_left
 ·simp only [Act.put, List.setIfInBounds_toArray, List.set_cons_zero, List.set_cons_succ, Yi, Yj]
  rfl
 refine one_ (i := 15) (N := some 63) #[true, true, true, true, true, true, true, true, true, true, true, true, true, true, true, true, false, false, false] rfl rfl (one_of HT_.out Qa8) (by decide) (fun K hK => ?_)
 refine goes_ Try.func53 Qa8 rfl #[.agg #[.bool t1133, .slice Ao27 t1134.length co27, .slice Ao28 t1137.length co28], .agg #[.bool t1144, .slice Ao34 t1145.length co34, .slice Ao35 t1148.length co35]] (by rfl) rfl rfl Qa2 ?_
 with_reducible refine (ratio_Same.calls k t1133 _ _ t1134 _ _ t1137 t1144 _ _ t1145 _ _ t1148 t1172 _ ?side1 ?side2 ?side3 ?side4 ?side5 ?side6 ?side7 ?side8 A17.out).mono ?_
 (case side1 => exact Qe11 (Kd.Zs HO1136.out).2.2)
 (case side2 => exact (Kd.Zs HO1136.out).2.1)
 (case side3 => exact Qe11 (Kd.Zs HO1139.out).2.2)
 (case side4 => exact (Kd.Zs HO1139.out).2.1)
 (case side5 => exact Qe11 (Kd.Zs HO1147.out).2.2)
 (case side6 => exact (Kd.Zs HO1147.out).2.1)
 (case side7 => exact Qe11 (Kd.Zs HO1150.out).2.2)
 (case side8 => exact (Kd.Zs HO1150.out).2.1)
 rintro e w54 ⟨rfl, hb⟩
 refine ⟨_, rfl, ?_⟩
 replace HO1129 := Yt.mk (Kd.Yd (Qr1 HO1129.out) hb)
 replace HO1132 := Yt.mk (Kd.Yd (Qr1 HO1132.out) hb)
 replace HO1136 := Yt.mk (Kd.Yd (Qr1 HO1136.out) hb)
 replace HO1139 := Yt.mk (Kd.Yd (Qr1 HO1139.out) hb)
 replace HO1147 := Yt.mk (Kd.Yd (Qr1 HO1147.out) hb)
 replace HO1150 := Yt.mk (Kd.Yd (Qr1 HO1150.out) hb)
 replace HO1156 := Yt.mk (Kd.Yd (Qr1 HO1156.out) hb)
 replace HO1159 := Yt.mk (Kd.Yd (Qr1 HO1159.out) hb)
 replace HO1165 := Yt.mk (Kd.Yd (Qr1 HO1165.out) hb)
 replace HO1168 := Yt.mk (Kd.Yd (Qr1 HO1168.out) hb)
 replace BK1141 := Yt.mk (Zq (g := gb1141) (o := .cells #[.bool t1133, .slice Ao27 t1134.length co27, .slice Ao28 t1137.length co28] 50 (0, 0)) (Qr12 BK1141.out) hb)
 replace BK1152 := Yt.mk (Zq (g := gb1152) (o := .cells #[.bool t1144, .slice Ao34 t1145.length co34, .slice Ao35 t1148.length co35] 50 (0, 0)) (Qr12 BK1152.out) hb)
 replace BK1161 := Yt.mk (Zq (g := gb1161) (o := .cells #[.bool t1153, .slice Ao44 t1154.length co44, .slice Ao45 t1157.length co45] 50 (0, 0)) (Qr12 BK1161.out) hb)
 replace HB := Yt.mk (Zm (Qa0) hb)
 (try clear hb)
 (try clear hb2)
 (try clear hk)
 (try clear hi)
 refine hK.out _ _ ⟨(Zl BK1161.out 0).trans rfl, (Zl BK1161.out 1).trans rfl, (Zl BK1161.out 2).trans rfl, (Zl BK1141.out 0).trans rfl, (Zl BK1141.out 1).trans rfl, (Zl BK1141.out 2).trans rfl, (Zl BK1152.out 0).trans rfl, (Zl BK1152.out 1).trans rfl, (Zl BK1152.out 2).trans rfl⟩ (fun hHeld => ?_)
 clear hK K
 refine norm_ (a' := ?_) ?_ ?_
 rotate_left
 ·show Act.put _ (some 63) _ = _
  simp only [Act.put, List.setIfInBounds_toArray, List.set_cons_zero, List.set_cons_succ, Yi, Yj]
  rfl
 refine pure_ (i := 16) (N := some 64) (v := ?_) (a' := ?_) #[true, true, true, true, true, true, true, true, true, true, true, true, true, true, true, true, true, false, false] rfl rfl (any_of HT_.out Qa8) (fun _ _ _ h => h) (Or.inl ⟨by rfl, ?_⟩) ?_ ?_
 rotate_left
 ·intro w'
  go_simp
  with_reducible rfl
 rotate_left
 ·simp only [Act.put, List.setIfInBounds_toArray, List.set_cons_zero, List.set_cons_succ, Yi, Yj]
  rfl
 refine pure_ (i := 17) (N := some 65) (v := ?_) (a' := ?_) #[true, true, true, true, true, true, true, true, true, true, true, true, true, true, true, true, true, true, false] rfl rfl (any_of HT_.out Qa8) (fun _ _ _ h => h) (Or.inl ⟨by rfl, ?_⟩) ?_ ?_
 rotate_left
 ·intro w'
  go_simp
  with_reducible rfl
 rotate_left
 ·simp only [Act.put, List.setIfInBounds_toArray, List.set_cons_zero, List.set_cons_succ, Yi, Yj]
  rfl
 refine pure_ (i := 18) (N := some 0) (v := ?_) (a' := ?_) #[true, true, true, true, true, true, true, true, true, true, true, true, true, true, true, true, true, true, true] rfl rfl (any_of HT_.out Qa8) (fun _ _ _ h => h) (Or.inl ⟨by rfl, ?_⟩) ?_ ?_
 rotate_left
 ·intro w'
  go_simp
  with_reducible rfl
 rotate_left
 ·simp only [Act.put, List.setIfInBounds_toArray, List.set_cons_zero, List.set_cons_succ, Yi, Yj]
  rfl
 refine done_ (done_of HT_.out Qa8) ?_
 try go_wp2
 go_ret
 exact ⟨Qa4, Qa0⟩
end Go.Proofs.Ytgffficaoioljaa.P
end
