import Derived.Test.YtgffficaoioljaaRi11
import Derived.Test.YtgffficaoioljaaRi16
import Derived.Test.YtgffficaoioljaaRi18
import Derived.Test.YtgffficaoioljaaRi17
import Derived.Test.YtgffficaoioljaaRi12
import Derived.Test.YtgffficaoioljaaRi1
section
namespace Go.Proofs.Ytgffficaoioljaa.P
open Go.RowKit Go.Proofs.YtgffficaoioljaaW.PrintWords Go.Proofs.YtgffficaoioljaaW.PrintLast Go.Proofs.YtgffficaoioljaaW.PrintMore
attribute [local go_sem] max2_int min2_int max_two min_two max_three min_three max_four min_four
set_option linter.unusedVariables false
set_option linter.unusedSimpArgs false
mutual
def ratio_Read.j0 : Nat → ByteArray → Bool → Int → Bool → Option (Bool × List Int × List Int × Int)
 | 0, _, _, _, _ => none
 | k + 1, x0, x4, x5, x21 => if x21 = true then (if 0 < (x0.size : Int) then (ratio_Read.j1 k x0 ((bt x0 0) == 45) 1) else (none)) else (ratio_Read.j1 k x0 x4 x5)
def ratio_Read.j1 : Nat → ByteArray → Bool → Int → Option (Bool × List Int × List Int × Int)
 | 0, _, _, _ => none
 | k + 1, x0, x4, x5 => (ratio_natDigits.f k x0 x5).bind fun bt1063 => (if bt1063.2.2 = true then (if bt1063.2.1 < (x0.size : Int) then (if 0 ≤ bt1063.2.1 then ((ratio_class.f (bt x0 bt1063.2.1)).bind fun t1071 => (if t1071 = 3 then ((ratio_natDigits.f k x0 (wrap64 (bt1063.2.1 + 1))).bind fun bt1072 => (if bt1072.2.2 = true then (if bt1072.2.1 < (x0.size : Int) then (ratio_Read.j2 k x4 bt1063.1 bt1072.1 true) else (ratio_Read.j2 k x4 bt1063.1 bt1072.1 ((bt1072.1.length : Int) == 0))) else (ratio_Read.j2 k x4 bt1063.1 bt1072.1 true))) else (some (false, ([] : List Int), ([] : List Int), 21)))) else (none)) else (ratio_Read.j3 k x4 bt1063.1 (([1] : List Int)))) else (some (false, ([] : List Int), ([] : List Int), 21)))
def ratio_Read.j3 : Nat → Bool → List Int → List Int → Option (Bool × List Int × List Int × Int)
 | 0, _, _, _ => none
 | k + 1, x4, x6, x9 => (ratio_Make.f k x4 x6 x9).bind fun bt1077 => (some (bt1077.1, bt1077.2.1, bt1077.2.2.1, bt1077.2.2.2))
def ratio_Read.j2 : Nat → Bool → List Int → List Int → Bool → Option (Bool × List Int × List Int × Int)
 | 0, _, _, _, _ => none
 | k + 1, x4, x6, x9, x66 => if x66 = true then (some (false, ([] : List Int), ([] : List Int), 21)) else (ratio_Read.j3 k x4 x6 x9)
end
def ratio_Read.f (k : Nat) (a0 : ByteArray) : Option (Bool × List Int × List Int × Int) := if (a0.size : Int) > 4096 then (some (false, ([] : List Int), ([] : List Int), 3)) else (if a0.toList = ([] : List UInt8) then (ratio_Read.j0 k a0 false 0 false) else (if 0 < (a0.size : Int) then ((ratio_class.f (bt a0 0)).bind fun t1062 => (ratio_Read.j0 k a0 false 0 (t1062 == 1))) else (none)))
theorem ratio_Read.mono_l : ∀ k, (∀ y0 y1 y2 y3, LeO (ratio_Read.j0 k y0 y1 y2 y3) (ratio_Read.j0 (k + 1) y0 y1 y2 y3)) ∧ (∀ y0 y1 y2, LeO (ratio_Read.j1 k y0 y1 y2) (ratio_Read.j1 (k + 1) y0 y1 y2)) ∧ (∀ y0 y1 y2, LeO (ratio_Read.j3 k y0 y1 y2) (ratio_Read.j3 (k + 1) y0 y1 y2)) ∧ (∀ y0 y1 y2 y3, LeO (ratio_Read.j2 k y0 y1 y2 y3) (ratio_Read.j2 (k + 1) y0 y1 y2 y3))
 | 0 => ⟨fun _ _ _ _ r h => by simp [ratio_Read.j0] at h, fun _ _ _ r h => by simp [ratio_Read.j1] at h, fun _ _ _ r h => by simp [ratio_Read.j3] at h, fun _ _ _ _ r h => by simp [ratio_Read.j2] at h⟩
 | k + 1 => by
  obtain ⟨ih0, ih1, ih2, ih3⟩ := ratio_Read.mono_l k
  refine ⟨?_, ?_, ?_, ?_⟩
  ·intro y0 y1 y2 y3
   unfold ratio_Read.j0
   repeat' first
   | (with_reducible exact ih0 _ _ _ _)
   | (with_reducible exact ih1 _ _ _)
   | (with_reducible exact ih2 _ _ _)
   | (with_reducible exact ih3 _ _ _ _)
   | (with_reducible exact ratio_Make.mono _ _ _ _)
   | (with_reducible exact ratio_natDigits.mono _ _ _)
   | (with_reducible exact LeO.refl _)
   | (with_reducible exact LeO.none _)
   | (with_reducible refine LeO.ite ?_ ?_)
   | (with_reducible refine LeO.bind ?_ (fun _ => ?_))
   | exact ih0 _ _ _ _
   | exact ih1 _ _ _
   | exact ih2 _ _ _
   | exact ih3 _ _ _ _
   | exact ratio_Make.mono _ _ _ _
   | exact ratio_natDigits.mono _ _ _
   | exact LeO.none _
   | refine LeO.ite ?_ ?_
   | refine LeO.bind ?_ (fun _ => ?_)
  ·intro y0 y1 y2
   unfold ratio_Read.j1
   repeat' first
   | (with_reducible exact ih0 _ _ _ _)
   | (with_reducible exact ih1 _ _ _)
   | (with_reducible exact ih2 _ _ _)
   | (with_reducible exact ih3 _ _ _ _)
   | (with_reducible exact ratio_Make.mono _ _ _ _)
   | (with_reducible exact ratio_natDigits.mono _ _ _)
   | (with_reducible exact LeO.refl _)
   | (with_reducible exact LeO.none _)
   | (with_reducible refine LeO.ite ?_ ?_)
   | (with_reducible refine LeO.bind ?_ (fun _ => ?_))
   | exact ih0 _ _ _ _
   | exact ih1 _ _ _
   | exact ih2 _ _ _
   | exact ih3 _ _ _ _
   | exact ratio_Make.mono _ _ _ _
   | exact ratio_natDigits.mono _ _ _
   | exact LeO.none _
   | refine LeO.ite ?_ ?_
   | refine LeO.bind ?_ (fun _ => ?_)
  ·intro y0 y1 y2
   unfold ratio_Read.j3
   repeat' first
   | (with_reducible exact ih0 _ _ _ _)
   | (with_reducible exact ih1 _ _ _)
   | (with_reducible exact ih2 _ _ _)
   | (with_reducible exact ih3 _ _ _ _)
   | (with_reducible exact ratio_Make.mono _ _ _ _)
   | (with_reducible exact ratio_natDigits.mono _ _ _)
   | (with_reducible exact LeO.refl _)
   | (with_reducible exact LeO.none _)
   | (with_reducible refine LeO.ite ?_ ?_)
   | (with_reducible refine LeO.bind ?_ (fun _ => ?_))
   | exact ih0 _ _ _ _
   | exact ih1 _ _ _
   | exact ih2 _ _ _
   | exact ih3 _ _ _ _
   | exact ratio_Make.mono _ _ _ _
   | exact ratio_natDigits.mono _ _ _
   | exact LeO.none _
   | refine LeO.ite ?_ ?_
   | refine LeO.bind ?_ (fun _ => ?_)
  ·intro y0 y1 y2 y3
   unfold ratio_Read.j2
   repeat' first
   | (with_reducible exact ih0 _ _ _ _)
   | (with_reducible exact ih1 _ _ _)
   | (with_reducible exact ih2 _ _ _)
   | (with_reducible exact ih3 _ _ _ _)
   | (with_reducible exact ratio_Make.mono _ _ _ _)
   | (with_reducible exact ratio_natDigits.mono _ _ _)
   | (with_reducible exact LeO.refl _)
   | (with_reducible exact LeO.none _)
   | (with_reducible refine LeO.ite ?_ ?_)
   | (with_reducible refine LeO.bind ?_ (fun _ => ?_))
   | exact ih0 _ _ _ _
   | exact ih1 _ _ _
   | exact ih2 _ _ _
   | exact ih3 _ _ _ _
   | exact ratio_Make.mono _ _ _ _
   | exact ratio_natDigits.mono _ _ _
   | exact LeO.none _
   | refine LeO.ite ?_ ?_
   | refine LeO.bind ?_ (fun _ => ?_)
theorem ratio_Read.mono : ∀ a0 k, LeO (ratio_Read.f k a0) (ratio_Read.f (k + 1) a0) := by
 intro a0 k
 obtain ⟨ih0, ih1, ih2, ih3⟩ := ratio_Read.mono_l k
 unfold ratio_Read.f
 repeat' first
   | (with_reducible exact ih0 _ _ _ _)
   | (with_reducible exact ih1 _ _ _)
   | (with_reducible exact ih2 _ _ _)
   | (with_reducible exact ih3 _ _ _ _)
   | (with_reducible exact ratio_Make.mono _ _ _ _)
   | (with_reducible exact ratio_natDigits.mono _ _ _)
   | (with_reducible exact LeO.refl _)
   | (with_reducible exact LeO.none _)
   | (with_reducible refine LeO.ite ?_ ?_)
   | (with_reducible refine LeO.bind ?_ (fun _ => ?_))
   | exact ih0 _ _ _ _
   | exact ih1 _ _ _
   | exact ih2 _ _ _
   | exact ih3 _ _ _ _
   | exact ratio_Make.mono _ _ _ _
   | exact ratio_natDigits.mono _ _ _
   | exact LeO.none _
   | refine LeO.ite ?_ ?_
   | refine LeO.bind ?_ (fun _ => ?_)
set_option maxHeartbeats 8000000 in
set_option maxRecDepth 100000 in
theorem ratio_Read.calls (k : Nat) (a0 : ByteArray) (r1 : Bool) (r2 : List Int) (r3 : List Int) (r4 : Int) (w : World) (h : ratio_Read.f k a0 = some (r1, r2, r3, r4)) :
  Calls Try.prog 59 #[.string a0] w fun e w' => ∃ v1_ v2_ : Value, e = .returned (.tuple #[.agg #[.bool r1, v1_, v2_], .int .i64 r4]) ∧ Kd.R (Kd.int .u32) 47 w' w.heap.size (fun k_ => some k_ ≠ (v2_ : Value).ownBlock) v1_ r2 ∧ Kd.R (Kd.int .u32) 47 w' w.heap.size (fun k_ => some k_ ≠ (v1_ : Value).ownBlock) v2_ r3 ∧ Below w.heap.size w w' := by
 have hu50 := Try.underlying50
 have HB := Yt.mk (Below.refl w.heap.size w)
 have H : (if (a0.size : Int) > 4096 then (some (false, ([] : List Int), ([] : List Int), 3)) else (if a0.toList = ([] : List UInt8) then (ratio_Read.j0 k a0 false 0 false) else (if 0 < (a0.size : Int) then ((ratio_class.f (bt a0 0)).bind fun t1062 => (ratio_Read.j0 k a0 false 0 (t1062 == 1))) else (none)))) = some (r1, r2, r3, r4) := h
 clear h
 by_cases c2 : (a0.size : Int) > 4096
 ·rw [if_pos c2] at H
  have c2b0 : decide (4096 < (a0.size : Int)) = true := decide_eq_true c2
  have c2b1 : decide (4096 < a0.size) = true := decide_eq_true (by omega)
  clear c2
  simp only [Option.some.injEq, Prod.mk.injEq] at H
  obtain ⟨rfl, rfl, rfl, rfl⟩ := H
  go_enter Try.func59, Try.ntmps59
  go_wp2_with (first | ((with_reducible refine Yk (N := 2) rfl ?_); (try (refine gate_guard (by rfl) ?_; dsimp only)); refine Yo ?hg (N := 2) ?hd (cs := #[.bool false, .slice none 0 0, .slice none 0 0]) (t := 50) ?hr ?_; (case hd => rfl); (case hg => rfl); (case hr => first | (go_simp; done) | (go_simp; rfl)); intro gb1061 hg w3 hbox hb; have n0_ := Yt.mk (Zm (by repeat (first | (with_reducible first | exact HB.out | apply Zb | apply Za | apply Zc) | exact HB.out)) hb); have n1_ := Yt.mk (hbox); have n2_ := Yt.mk ((by rw [hg]; exact (Zk (by repeat (first | (with_reducible first | exact HB.out | apply Zb | apply Za | apply Zc) | exact HB.out))) : w.heap.size ≤ gb1061)); have n3_ := Yt.mk ((by rw [hg]; exact (Zk (by repeat (first | (with_reducible first | exact HB.out | apply Zb | apply Za | apply Zc) | exact HB.out))) : w.heap.size ≤ gb1061)); clear HB; have HB := n0_; have BK1061 := n1_; have GW1061 := n2_; have GE1061 := n3_; clear n0_ n1_ n2_ n3_; clear hb hbox hg; have hcz4_0 : w3.cell? ⟨gb1061, 0, none⟩ = some (.bool false) := (Zl BK1061.out 0).trans rfl; have hcz4_1 : w3.cell? ⟨gb1061, 1, none⟩ = some (.slice none 0 0) := (Zl BK1061.out 1).trans rfl; have hcz4_2 : w3.cell? ⟨gb1061, 2, none⟩ = some (.slice none 0 0) := (Zl BK1061.out 2).trans rfl; have hfz4_0 := Zn BK1061.out 0; have hfz4_1 := Zn BK1061.out 1; have hfz4_2 := Zn BK1061.out 2))
  refine bodyPost_ret (results_ct rfl _ _ gb1061 50 #[.bool false, .slice none 0 0, .slice none 0 0] (0, 0) _ rfl (by (with_reducible repeat (first | refine Zg ?_ _ | refine Zi ?_ | refine Zh ?_ _)); refine Ym (cs := #[.bool false, .slice none 0 0, .slice none 0 0]) ?_ 2 _ rfl; (with_reducible repeat (first | refine Zg ?_ _ | refine Zi ?_ | refine Zh ?_ _)); refine Ym (cs := #[.bool false, .slice none 0 0, .slice none 0 0]) ?_ 1 _ rfl; (with_reducible repeat (first | refine Zg ?_ _ | refine Zi ?_ | refine Zh ?_ _)); refine Ym (cs := #[.bool false, .slice none 0 0, .slice none 0 0]) ?_ 0 _ rfl; (with_reducible repeat (first | refine Zg ?_ _ | refine Zi ?_ | refine Zh ?_ _)); exact BK1061.out) Try.underlying50 rfl (by kernel_rfl)) rfl ?_
  exact ⟨_, _, by first | rfl | (simp [Zp, Zo] <;> rfl) | (simp [*, Zp, Zo] <;> rfl), by first | exact Kd.R_nil _ _ _ _ _ | exact Kd.N_nil _ _ _ _ _ | exact Kd.V_nil _ _ _ _ _ | exact Kd.Q_nil _ _ _ _ _ | exact Kd.S_nil _ _ _ _ _, by first | exact Kd.R_nil _ _ _ _ _ | exact Kd.N_nil _ _ _ _ _ | exact Kd.V_nil _ _ _ _ _ | exact Kd.Q_nil _ _ _ _ _ | exact Kd.S_nil _ _ _ _ _, by repeat (first | (with_reducible first | exact HB.out | apply Zb | apply Za | apply Zc | refine Zd ?_ GE1061.out) | exact HB.out)⟩
 ·rw [if_neg c2] at H
  have c2b0 : decide (4096 < (a0.size : Int)) = false := decide_eq_false c2
  have c2b1 : decide (4096 < a0.size) = false := decide_eq_false (by omega)
  clear c2
  have HC5 := Yt.mk H
  clear H
  go_enter Try.func59, Try.ntmps59
  go_upto_region 4 with (first | ((with_reducible refine Yk (N := 2) rfl ?_); (try (refine gate_guard (by rfl) ?_; dsimp only)); refine Yo ?hg (N := 2) ?hd (cs := #[.bool false, .slice none 0 0, .slice none 0 0]) (t := 50) ?hr ?_; (case hd => rfl); (case hg => rfl); (case hr => first | (go_simp; done) | (go_simp; rfl)); intro gb1061 hg w6 hbox hb; have n0_ := Yt.mk (Zm (by repeat (first | (with_reducible first | exact HB.out | apply Zb | apply Za | apply Zc) | exact HB.out)) hb); have n1_ := Yt.mk (hbox); have n2_ := Yt.mk ((by rw [hg]; exact (Zk (by repeat (first | (with_reducible first | exact HB.out | apply Zb | apply Za | apply Zc) | exact HB.out))) : w.heap.size ≤ gb1061)); have n3_ := Yt.mk ((by rw [hg]; exact (Zk (by repeat (first | (with_reducible first | exact HB.out | apply Zb | apply Za | apply Zc) | exact HB.out))) : w.heap.size ≤ gb1061)); clear HB; have HB := n0_; have BK1061 := n1_; have GW1061 := n2_; have GE1061 := n3_; clear n0_ n1_ n2_ n3_; clear hb hbox hg))
  (try simp only [Act.put, List.setIfInBounds_toArray, List.set_cons_zero, List.set_cons_succ])
  go_cut [21] (fun v21 wc => ∃ (kq : Nat) (x21_4 : Bool), v21 = .bool x21_4 ∧ Yt (ratio_Read.j0 kq a0 false 0 x21_4 = some (r1, r2, r3, r4)) ∧ Yt (kq ≤ k) ∧ Yt (wc.heap[gb1061]? = some (.cells #[.bool false, (.slice none 0 0), (.slice none 0 0)] 50 (0, 0))) ∧ Yt (Below w.heap.size w wc))
  case first =>
   have H := HC5.out
   clear HC5
   by_cases c7 : a0.toList = ([] : List UInt8)
   ·rw [if_pos c7] at H
    have c7b0 : (a0.toList == ([] : List UInt8)) = true := beq_iff_eq.mpr c7
    have c7b1 : (a0.toList != ([] : List UInt8)) = false := bne_eq_false_iff_eq.mpr c7
    clear c7
    (first | rw [c7b0] | rw [c7b1] | (simp only [Yi, Yj]; rw [c7b0]) | skip)
    have H' := Yt.mk H
    clear H
    go_wp2
    go_meet
    case rel => exact ⟨_, (false), (by first | rfl | (simp; done) | (simp [*]; done)), H', ⟨by first | omega | exact Nat.le_refl _⟩, ⟨by (with_reducible repeat (first | refine Zg ?_ _ | refine Zi ?_ | refine Zh ?_ _)); exact BK1061.out⟩, ⟨by repeat (first | (with_reducible first | exact HB.out | apply Zb | apply Za | apply Zc | refine Zd ?_ GE1061.out) | exact HB.out)⟩⟩
   ·rw [if_neg c7] at H
    have c7b0 : (a0.toList == ([] : List UInt8)) = false := beq_eq_false_iff_ne.mpr c7
    have c7b1 : (a0.toList != ([] : List UInt8)) = true := bne_iff_ne.mpr c7
    (first | rw [c7b0] | rw [c7b1] | (simp only [Yi, Yj]; rw [c7b0]) | skip)
    by_cases c8 : 0 < (a0.size : Int)
    ·rw [if_pos c8] at H
     have c8b0 : decide (0 < (a0.size : Int)) = true := decide_eq_true c8
     have c8b1 : decide (0 < a0.size) = true := decide_eq_true (by omega)
     clear c8
     replace H := Option.bind_eq_some_iff.mp H
     obtain ⟨t1062, A100, H⟩ := H
     try dsimp only at H
     have A10 := Yt.mk A100
     clear A100
     have H' := Yt.mk H
     clear H
     have p9 : 0 ≤ (0 : Int) := (by omega)
     have q9 : 0 < a0.size := (by have : (0 : Int) < (a0.size : Int) := of_decide_eq_true (by first | (with_reducible assumption) | assumption); omega)
     have hx9 : ∀ h : 0 < a0.size, ((a0[0]'h).toNat : Int) = bt a0 0 := bt_at a0 0
     clear p9
     have qi9 : (0 < (a0.size : Int)) = True := eq_true (of_decide_eq_true (by first | (with_reducible assumption) | assumption))
     replace q9 := eq_true q9
     go_wp2_with (first | (go_at_call 99; (with_reducible refine (ratio_class.calls (bt a0 0) t1062 _ A10.out).mono ?_); rintro e w11 ⟨rfl, hb⟩; have n0_ := Yt.mk (Zq (g := gb1061) (o := .cells #[.bool false, .slice none 0 0, .slice none 0 0] 50 (0, 0)) (by (with_reducible repeat (first | refine Zg ?_ _ | refine Zi ?_ | refine Zh ?_ _)); exact BK1061.out) hb); have n1_ := Yt.mk (Zm (by repeat (first | (with_reducible first | exact HB.out | apply Zb | apply Za | apply Zc | refine Zd ?_ GE1061.out) | exact HB.out)) hb); clear BK1061; clear HB; have BK1061 := n0_; have HB := n1_; clear n0_ n1_; (try clear hb); (try clear hb2); (try clear hk); (try clear hi)))
     go_meet
     case rel => exact ⟨_, ((t1062 == 1)), (by first | rfl | (simp; done) | (simp [*]; done)), H', ⟨by first | omega | exact Nat.le_refl _⟩, ⟨by (with_reducible repeat (first | refine Zg ?_ _ | refine Zi ?_ | refine Zh ?_ _)); exact BK1061.out⟩, ⟨by repeat (first | (with_reducible first | exact HB.out | apply Zb | apply Za | apply Zc | refine Zd ?_ GE1061.out) | exact HB.out)⟩⟩
    ·rw [if_neg c8] at H
     exact absurd H (by simp)
  case rest =>
   clear HC5
   try clear c2
   try clear c2b0
   try clear c2b1
   try clear p2
   try clear c5
   try clear c7
   try clear c7b0
   try clear c7b1
   try clear c8
   try clear c8b0
   try clear c8b1
   try clear p9
   try clear q9
   try clear hx9
   try clear qi9
   try clear hcz4_0
   try clear hcz4_1
   try clear hcz4_2
   try clear hfz4_0
   try clear hfz4_1
   try clear hfz4_2
   try clear p9
   try clear q9
   obtain ⟨kq, x21_4, rfl, HA, HJ4, BK1061, HB⟩ := hcut
   cases kq with
   | zero => exact absurd HA.out (by simp [ratio_Read.j0])
   | succ kj4 =>
    have H := HA.out
    clear HA
    simp only [ratio_Read.j0] at H
    have HC12 := Yt.mk H
    clear H
    go_upto_if 21 with (fail)
    go_cut [4, 5] (fun v4 v5 wc => ∃ (kq : Nat) (x4_11 : Bool) (x5_11 : Int), v4 = .bool x4_11 ∧ v5 = .int .i64 x5_11 ∧ Yt (ratio_Read.j1 kq a0 x4_11 x5_11 = some (r1, r2, r3, r4)) ∧ Yt (kq ≤ kj4) ∧ Yt (wc.heap[gb1061]? = some (.cells #[.bool false, (.slice none 0 0), (.slice none 0 0)] 50 (0, 0))) ∧ Yt (Below w.heap.size w wc))
    case first =>
     have H := HC12.out
     clear HC12
     by_cases c13 : x21_4 = true
     ·subst c13
      have H1 : (if 0 < (a0.size : Int) then (ratio_Read.j1 kj4 a0 ((bt a0 0) == 45) 1) else (none)) = some (r1, r2, r3, r4) := by rw [if_pos rfl] at H; exact H
      clear H
      have H := H1
      clear H1
      by_cases c14 : 0 < (a0.size : Int)
      ·rw [if_pos c14] at H
       have c14b0 : decide (0 < (a0.size : Int)) = true := decide_eq_true c14
       have c14b1 : decide (0 < a0.size) = true := decide_eq_true (by omega)
       clear c14
       (first | rw [c14b0] | rw [c14b1] | (simp only [Yi, Yj]; rw [c14b0]) | skip)
       have H' := Yt.mk H
       clear H
       have p15 : 0 ≤ (0 : Int) := (by omega)
       have q15 : 0 < a0.size := (by have : (0 : Int) < (a0.size : Int) := of_decide_eq_true (by first | (with_reducible assumption) | assumption); omega)
       have hx15 : ∀ h : 0 < a0.size, ((a0[0]'h).toNat : Int) = bt a0 0 := bt_at a0 0
       clear p15
       have qi15 : (0 < (a0.size : Int)) = True := eq_true (of_decide_eq_true (by first | (with_reducible assumption) | assumption))
       replace q15 := eq_true q15
       go_wp2
       go_meet
       case rel => exact ⟨_, (((bt a0 0) == 45)), (1), (by first | rfl | (simp; done) | (simp [*]; done)), (by first | rfl | (simp; done) | (simp [*]; done)), H', ⟨by have := HJ4.out; first | omega | exact Nat.le_refl _⟩, ⟨by (with_reducible repeat (first | refine Zg ?_ _ | refine Zi ?_ | refine Zh ?_ _)); exact BK1061.out⟩, ⟨by repeat (first | (with_reducible first | exact HB.out | apply Zb | apply Za | apply Zc | refine Zd ?_ GE1061.out) | exact HB.out)⟩⟩
      ·rw [if_neg c14] at H
       exact absurd H (by simp)
     ·replace c13 := Bool.eq_false_iff.mpr c13
      subst c13
      have H1 : (ratio_Read.j1 kj4 a0 false 0) = some (r1, r2, r3, r4) := by rw [if_neg (show ¬ (false = true) by decide)] at H; exact H
      clear H
      have H := H1
      clear H1
      have H' := Yt.mk H
      clear H
      go_wp2
      go_meet
      case rel => exact ⟨_, (false), (0), (by first | rfl | (simp; done) | (simp [*]; done)), (by first | rfl | (simp; done) | (simp [*]; done)), H', ⟨by have := HJ4.out; first | omega | exact Nat.le_refl _⟩, ⟨by (with_reducible repeat (first | refine Zg ?_ _ | refine Zi ?_ | refine Zh ?_ _)); exact BK1061.out⟩, ⟨by repeat (first | (with_reducible first | exact HB.out | apply Zb | apply Za | apply Zc | refine Zd ?_ GE1061.out) | exact HB.out)⟩⟩
    case rest =>
     clear HC12
     try clear c1
     try clear p1
     try clear q1
     try clear hx1
     try clear qi1
     try clear c2
     try clear c2b0
     try clear c2b1
     try clear p2
     try clear c5
     try clear c7
     try clear c7b0
     try clear c7b1
     try clear c8
     try clear c8b0
     try clear c8b1
     try clear p9
     try clear q9
     try clear hx9
     try clear qi9
     try clear c13
     try clear c14
     try clear c14b0
     try clear c14b1
     try clear p15
     try clear q15
     try clear hx15
     try clear qi15
     try clear hcz4_0
     try clear hcz4_1
     try clear hcz4_2
     try clear hfz4_0
     try clear hfz4_1
     try clear hfz4_2
     try clear p15
     try clear p2
     try clear p9
     try clear q15
     try clear q9
     obtain ⟨kq, x4_11, x5_11, rfl, rfl, HA, HJ11, BK1061, HB⟩ := hcut
     cases kq with
     | zero => exact absurd HA.out (by simp [ratio_Read.j1])
     | succ kj11 =>
      have H := HA.out
      clear HA
      simp only [ratio_Read.j1] at H
      replace H := Option.bind_eq_some_iff.mp H
      obtain ⟨⟨t1063, t1064, t1065⟩, A160, H⟩ := H
      try dsimp only at H
      have A16 := Yt.mk A160
      clear A160
      by_cases c17 : t1065 = true
      ·subst c17
       have H1 : (if t1064 < (a0.size : Int) then (if 0 ≤ t1064 then ((ratio_class.f (bt a0 t1064)).bind fun t1071 => (if t1071 = 3 then ((ratio_natDigits.f kj11 a0 (wrap64 (t1064 + 1))).bind fun bt1072 => (if bt1072.2.2 = true then (if bt1072.2.1 < (a0.size : Int) then (ratio_Read.j2 kj11 x4_11 t1063 bt1072.1 true) else (ratio_Read.j2 kj11 x4_11 t1063 bt1072.1 ((bt1072.1.length : Int) == 0))) else (ratio_Read.j2 kj11 x4_11 t1063 bt1072.1 true))) else (some (false, ([] : List Int), ([] : List Int), 21)))) else (none)) else (ratio_Read.j3 kj11 x4_11 t1063 (([1] : List Int)))) = some (r1, r2, r3, r4) := by rw [if_pos rfl] at H; exact H
       clear H
       have H := H1
       clear H1
       obtain ⟨y1068, hy1068⟩ : ∃ y_ : List Int, y_ = (([1] : List Int)) := ⟨_, rfl⟩
       replace H : (if t1064 < (a0.size : Int) then (if 0 ≤ t1064 then ((ratio_class.f (bt a0 t1064)).bind fun t1071 => (if t1071 = 3 then ((ratio_natDigits.f kj11 a0 (wrap64 (t1064 + 1))).bind fun bt1072 => (if bt1072.2.2 = true then (if bt1072.2.1 < (a0.size : Int) then (ratio_Read.j2 kj11 x4_11 t1063 bt1072.1 true) else (ratio_Read.j2 kj11 x4_11 t1063 bt1072.1 ((bt1072.1.length : Int) == 0))) else (ratio_Read.j2 kj11 x4_11 t1063 bt1072.1 true))) else (some (false, ([] : List Int), ([] : List Int), 21)))) else (none)) else (ratio_Read.j3 kj11 x4_11 t1063 y1068)) = some (r1, r2, r3, r4) := by first | (rw [hy1068]; with_reducible exact H) | (have H2_ := (Option.bind_some _ _).symm.trans H; rw [hy1068]; with_reducible exact H2_) | (have H2_ := (Option.bind_some _ _).symm.trans H; with_reducible exact H2_) | with_reducible exact H | (rw [hy1068]; exact H) | exact H
       have Ny1068 := Yt.mk hy1068
       clear hy1068
       have HC18 := Yt.mk H
       clear H
       go_upto_if 39 with (first | ((with_reducible refine Zr (f := 100) rfl ?_); refine Yg (some 28) rfl rfl Try.func100 (by kernel_rfl) rfl #[.string a0, .int .i64 x5_11] rfl (by (try simp only [List.map_toArray, List.map_cons, List.map_nil]); first | done | rfl | (simp only [List.length_drop, List.length_take]; rfl)) ?_; (with_reducible refine (ratio_natDigits.calls kj11 a0 x5_11 t1063 t1064 true _ A16.out).mono ?_); rintro e w19 ⟨v1066, rfl, ho0, hb⟩; refine ⟨_, rfl, ?_⟩; have n0_ := Yt.mk (Kd.Yb ho0 (Zk (by repeat (first | (with_reducible first | exact HB.out | apply Zb | apply Za | apply Zc | refine Zd ?_ GE1061.out) | exact HB.out)))); have n1_ := Yt.mk (Zq (g := gb1061) (o := .cells #[.bool false, .slice none 0 0, .slice none 0 0] 50 (0, 0)) (by (with_reducible repeat (first | refine Zg ?_ _ | refine Zi ?_ | refine Zh ?_ _)); exact BK1061.out) hb); have n2_ := Yt.mk (Zm (by repeat (first | (with_reducible first | exact HB.out | apply Zb | apply Za | apply Zc | refine Zd ?_ GE1061.out) | exact HB.out)) hb); clear BK1061; clear HB; have HO1067 := n0_; have BK1061 := n1_; have HB := n2_; clear n0_ n1_ n2_; (try clear hb); (try clear hb2); (try clear hk); (try clear hi); (try clear ho0)) | ((with_reducible refine Yk (N := 35) rfl ?_); (try (refine gate_guard (by rfl) ?_; dsimp only)); refine Kd.R_lit (Kd.int .u32) _ 47 ?hg (N := 35) ?hd (xs := ([1] : List Int)) (inner := [.int .u32 1]) (ok := fun _ => True) (okp := fun _ => True) ?hr ?hp (fun _ hk => hk) trivial (Below.refl _ _) (Nat.le_refl _) (by simp) ?_; (case hd => rfl); (case hg => rfl); (case hr => first | (go_simp; done) | (go_simp; rfl)); (case hp => exact (Reps.one (show Kd.M (Kd.int .u32) _ _ _ 1 [.int .u32 1] from rfl) (Reps.none _ _))); intro v1069 w20 ho21 hb hg_ hnew_; clear hg_ hnew_; (first | rw [← Ny1068.out] at ho21 | (simp only [Int.reduceToNat] at ho21; rw [← Ny1068.out] at ho21)); have n0_ := Yt.mk (Kd.Yf (by (with_reducible repeat (first | apply Kd.Zf | apply Kd.Ze | apply Kd.Zj)); exact HO1067.out) (Kd.Zw ho21) hb); have n1_ := Yt.mk (Kd.Yb (Kd.Ya ho21 (Kd.R_lt (by (with_reducible repeat (first | apply Kd.Zf | apply Kd.Ze | apply Kd.Zj)); exact HO1067.out))) (Zk (by repeat (first | (with_reducible first | exact HB.out | apply Zb | apply Za | apply Zc | refine Zd ?_ GE1061.out) | exact HB.out)))); have n2_ := Yt.mk (Zq (g := gb1061) (o := .cells #[.bool false, .slice none 0 0, .slice none 0 0] 50 (0, 0)) (by (with_reducible repeat (first | refine Zg ?_ _ | refine Zi ?_ | refine Zh ?_ _)); exact BK1061.out) hb); have n3_ := Yt.mk (Zm (by repeat (first | (with_reducible first | exact HB.out | apply Zb | apply Za | apply Zc | refine Zd ?_ GE1061.out) | exact HB.out)) hb); clear HO1067; clear BK1061; clear HB; have HO1067 := n0_; have HO1070 := n1_; have BK1061 := n2_; have HB := n3_; clear n0_ n1_ n2_ n3_; clear hb ho21))
       (try simp only [Act.put, List.setIfInBounds_toArray, List.set_cons_zero, List.set_cons_succ])
       go_cut [9] (fun v9 wc => ∃ (kq : Nat) (x9_17 : List Int) (x1062000_17 : Bool), Yt (ratio_Read.j3 kq x4_11 t1063 x9_17 = some (r1, r2, r3, r4)) ∧ Yt (kq ≤ kj11) ∧ Yt (Kd.R (Kd.int .u32) 47 wc w.heap.size (fun k_ => some k_ ≠ (v9 : Value).ownBlock) v1066 t1063) ∧ Yt (Kd.R (Kd.int .u32) 47 wc w.heap.size (fun k_ => some k_ ≠ (v1066 : Value).ownBlock) v9 x9_17) ∧ Yt (wc.heap[gb1061]? = some (.cells #[.bool x1062000_17, (.slice none 0 0), (.slice none 0 0)] 50 (0, 0))) ∧ Yt (Below w.heap.size w wc))
       case first =>
        have H := HC18.out
        clear HC18
        by_cases c22 : t1064 < (a0.size : Int)
        ·rw [if_pos c22] at H
         have c22b0 : decide (t1064 < (a0.size : Int)) = true := decide_eq_true c22
         clear c22
         (first | rw [c22b0] | rw [c22b1] | (simp only [Yi, Yj]; rw [c22b0]) | skip)
         by_cases c23 : 0 ≤ t1064
         ·rw [if_pos c23] at H
          have c23b0 : decide (0 ≤ t1064) = true := decide_eq_true c23
          clear c23
          replace H := Option.bind_eq_some_iff.mp H
          obtain ⟨t1071, A250, H⟩ := H
          try dsimp only at H
          have A25 := Yt.mk A250
          clear A250
          by_cases c26 : t1071 = 3
          ·rw [if_pos c26] at H
           have c26b0 : (t1071 == 3) = true := beq_iff_eq.mpr c26
           have c26b1 : (t1071 != 3) = false := bne_eq_false_iff_eq.mpr c26
           clear c26
           replace H := Option.bind_eq_some_iff.mp H
           obtain ⟨⟨t1072, t1073, t1074⟩, A270, H⟩ := H
           try dsimp only at H
           have A27 := Yt.mk A270
           clear A270
           have HC28 := Yt.mk H
           clear H
           have p24 : 0 ≤ (t1064 : Int) := of_decide_eq_true (by first | (with_reducible assumption) | assumption)
           have q24 : t1064 < (a0.size : Int) := of_decide_eq_true (by first | (with_reducible assumption) | assumption)
           have hx24 := bt_at a0 t1064
           replace p24 := eq_true p24
           replace q24 := eq_true q24
           go_upto_region 14 with (first | ((with_reducible refine Zr (f := 99) rfl ?_); refine Yg (some 43) rfl rfl Try.func99 (by kernel_rfl) rfl #[.int .u8 (bt a0 t1064)] rfl (by (try simp only [List.map_toArray, List.map_cons, List.map_nil]); first | done | rfl | (simp only [List.length_drop, List.length_take]; rfl)) ?_; (with_reducible refine (ratio_class.calls (bt a0 t1064) t1071 _ A25.out).mono ?_); rintro e w29 ⟨rfl, hb⟩; refine ⟨_, rfl, ?_⟩; have n0_ := Yt.mk (Kd.Yd (by (with_reducible repeat (first | apply Kd.Zf | apply Kd.Ze | apply Kd.Zj)); exact HO1067.out) hb); have n1_ := Yt.mk (Kd.Yd (by (with_reducible repeat (first | apply Kd.Zf | apply Kd.Ze | apply Kd.Zj)); exact HO1070.out) hb); have n2_ := Yt.mk (Zq (g := gb1061) (o := .cells #[.bool false, .slice none 0 0, .slice none 0 0] 50 (0, 0)) (by (with_reducible repeat (first | refine Zg ?_ _ | refine Zi ?_ | refine Zh ?_ _)); exact BK1061.out) hb); have n3_ := Yt.mk (Zm (by repeat (first | (with_reducible first | exact HB.out | apply Zb | apply Za | apply Zc | refine Zd ?_ GE1061.out) | exact HB.out)) hb); clear HO1067; clear HO1070; clear BK1061; clear HB; have HO1067 := n0_; have HO1070 := n1_; have BK1061 := n2_; have HB := n3_; clear n0_ n1_ n2_ n3_; (try clear hb); (try clear hb2); (try clear hk); (try clear hi)) | ((with_reducible refine Zr (f := 100) rfl ?_); refine Yg (some 50) rfl rfl Try.func100 (by kernel_rfl) rfl #[.string a0, .int .i64 (wrap64 (t1064 + 1))] rfl (by (try simp only [List.map_toArray, List.map_cons, List.map_nil]); first | done | rfl | (simp only [List.length_drop, List.length_take]; rfl)) ?_; (with_reducible refine (ratio_natDigits.calls kj11 a0 (wrap64 (t1064 + 1)) t1072 t1073 t1074 _ A27.out).mono ?_); rintro e w30 ⟨v1075, rfl, ho0, hb⟩; refine ⟨_, rfl, ?_⟩; have n0_ := Yt.mk (Kd.Yf (by (with_reducible repeat (first | apply Kd.Zf | apply Kd.Ze | apply Kd.Zj)); exact HO1067.out) (Kd.Zw ho0) hb); have n1_ := Yt.mk (Kd.Yf (by (with_reducible repeat (first | apply Kd.Zf | apply Kd.Ze | apply Kd.Zj)); exact HO1070.out) (Kd.Zw ho0) hb); have n2_ := Yt.mk (Kd.Yb (Kd.Ya (Kd.Ya ho0 (Kd.R_lt (by (with_reducible repeat (first | apply Kd.Zf | apply Kd.Ze | apply Kd.Zj)); exact HO1067.out))) (Kd.R_lt (by (with_reducible repeat (first | apply Kd.Zf | apply Kd.Ze | apply Kd.Zj)); exact HO1070.out))) (Zk (by repeat (first | (with_reducible first | exact HB.out | apply Zb | apply Za | apply Zc | refine Zd ?_ GE1061.out) | exact HB.out)))); have n3_ := Yt.mk (Zq (g := gb1061) (o := .cells #[.bool false, .slice none 0 0, .slice none 0 0] 50 (0, 0)) (by (with_reducible repeat (first | refine Zg ?_ _ | refine Zi ?_ | refine Zh ?_ _)); exact BK1061.out) hb); have n4_ := Yt.mk (Zm (by repeat (first | (with_reducible first | exact HB.out | apply Zb | apply Za | apply Zc | refine Zd ?_ GE1061.out) | exact HB.out)) hb); clear HO1067; clear HO1070; clear BK1061; clear HB; have HO1067 := n0_; have HO1070 := n1_; have HO1076 := n2_; have BK1061 := n3_; have HB := n4_; clear n0_ n1_ n2_ n3_ n4_; (try clear hb); (try clear hb2); (try clear hk); (try clear hi); (try clear ho0)))
           (try simp only [Act.put, List.setIfInBounds_toArray, List.set_cons_zero, List.set_cons_succ])
           go_cut [66] (fun v66 wc => ∃ (kq : Nat) (x66_27 : Bool), v66 = .bool x66_27 ∧ Yt (ratio_Read.j2 kq x4_11 t1063 t1072 x66_27 = some (r1, r2, r3, r4)) ∧ Yt (kq ≤ kj11) ∧ Yt (Kd.R (Kd.int .u32) 47 wc w.heap.size (fun k_ => some k_ ≠ (v1075 : Value).ownBlock) v1066 t1063) ∧ Yt (Kd.R (Kd.int .u32) 47 wc w.heap.size (fun k_ => some k_ ≠ (v1066 : Value).ownBlock) v1075 t1072) ∧ Yt (wc.heap[gb1061]? = some (.cells #[.bool false, (.slice none 0 0), (.slice none 0 0)] 50 (0, 0))) ∧ Yt (Below w.heap.size w wc))
           case first =>
            have H := HC28.out
            clear HC28
            by_cases c31 : t1074 = true
            ·subst c31
             have H1 : (if t1073 < (a0.size : Int) then (ratio_Read.j2 kj11 x4_11 t1063 t1072 true) else (ratio_Read.j2 kj11 x4_11 t1063 t1072 ((t1072.length : Int) == 0))) = some (r1, r2, r3, r4) := by rw [if_pos rfl] at H; exact H
             clear H
             have H := H1
             clear H1
             by_cases c32 : t1073 < (a0.size : Int)
             ·rw [if_pos c32] at H
              have c32b0 : decide (t1073 < (a0.size : Int)) = true := decide_eq_true c32
              clear c32
              (first | rw [c32b0] | rw [c32b1] | (simp only [Yi, Yj]; rw [c32b0]) | skip)
              have H' := Yt.mk H
              clear H
              go_wp2
              go_meet
              case rel => exact ⟨_, (true), (by first | rfl | (simp; done) | (simp [*]; done)), H', ⟨by have := HJ4.out; have := HJ11.out; first | omega | exact Nat.le_refl _⟩, ⟨by (with_reducible repeat (first | apply Kd.Zf | apply Kd.Ze | apply Kd.Zj)); exact Kd.Zv HO1067.out (fun _ hk => hk.2)⟩, ⟨by (with_reducible repeat (first | apply Kd.Zf | apply Kd.Ze | apply Kd.Zj)); exact Kd.Zv HO1076.out (fun _ hk => hk.1.2)⟩, ⟨by (with_reducible repeat (first | refine Zg ?_ _ | refine Zi ?_ | refine Zh ?_ _)); exact BK1061.out⟩, ⟨by repeat (first | (with_reducible first | exact HB.out | apply Zb | apply Za | apply Zc | refine Zd ?_ GE1061.out) | exact HB.out)⟩⟩
             ·rw [if_neg c32] at H
              have c32b0 : decide (t1073 < (a0.size : Int)) = false := decide_eq_false c32
              clear c32
              (first | rw [c32b0] | rw [c32b1] | (simp only [Yi, Yj]; rw [c32b0]) | skip)
              have H' := Yt.mk H
              clear H
              obtain ⟨Ao33, co33, eo33⟩ := Kd.Zx HO1076.out
              subst eo33
              go_wp2
              go_meet
              case rel => exact ⟨_, (((t1072.length : Int) == 0)), (by first | rfl | (simp; done) | (simp [*]; done)), H', ⟨by have := HJ4.out; have := HJ11.out; first | omega | exact Nat.le_refl _⟩, ⟨by (with_reducible repeat (first | apply Kd.Zf | apply Kd.Ze | apply Kd.Zj)); exact Kd.Zv HO1067.out (fun _ hk => hk.2)⟩, ⟨by (with_reducible repeat (first | apply Kd.Zf | apply Kd.Ze | apply Kd.Zj)); exact Kd.Zv HO1076.out (fun _ hk => hk.1.2)⟩, ⟨by (with_reducible repeat (first | refine Zg ?_ _ | refine Zi ?_ | refine Zh ?_ _)); exact BK1061.out⟩, ⟨by repeat (first | (with_reducible first | exact HB.out | apply Zb | apply Za | apply Zc | refine Zd ?_ GE1061.out) | exact HB.out)⟩⟩
            ·replace c31 := Bool.eq_false_iff.mpr c31
             subst c31
             have H1 : (ratio_Read.j2 kj11 x4_11 t1063 t1072 true) = some (r1, r2, r3, r4) := by rw [if_neg (show ¬ (false = true) by decide)] at H; exact H
             clear H
             have H := H1
             clear H1
             have H' := Yt.mk H
             clear H
             go_wp2
             go_meet
             case rel => exact ⟨_, (true), (by first | rfl | (simp; done) | (simp [*]; done)), H', ⟨by have := HJ4.out; have := HJ11.out; first | omega | exact Nat.le_refl _⟩, ⟨by (with_reducible repeat (first | apply Kd.Zf | apply Kd.Ze | apply Kd.Zj)); exact Kd.Zv HO1067.out (fun _ hk => hk.2)⟩, ⟨by (with_reducible repeat (first | apply Kd.Zf | apply Kd.Ze | apply Kd.Zj)); exact Kd.Zv HO1076.out (fun _ hk => hk.1.2)⟩, ⟨by (with_reducible repeat (first | refine Zg ?_ _ | refine Zi ?_ | refine Zh ?_ _)); exact BK1061.out⟩, ⟨by repeat (first | (with_reducible first | exact HB.out | apply Zb | apply Za | apply Zc | refine Zd ?_ GE1061.out) | exact HB.out)⟩⟩
           case rest =>
            clear HC28
            try clear c1
            try clear p1
            try clear q1
            try clear hx1
            try clear qi1
            try clear c2
            try clear c2b0
            try clear c2b1
            try clear p2
            try clear q2
            try clear hx2
            try clear c3
            try clear c5
            try clear p6
            try clear c7
            try clear c7b0
            try clear c7b1
            try clear c8
            try clear c8b0
            try clear c8b1
            try clear c9
            try clear p9
            try clear q9
            try clear hx9
            try clear qi9
            try clear c10
            try clear c13
            try clear c14
            try clear c14b0
            try clear c14b1
            try clear p15
            try clear q15
            try clear hx15
            try clear qi15
            try clear c17
            try clear c22
            try clear c22b0
            try clear c22b1
            try clear c23
            try clear c23b0
            try clear p24
            try clear q24
            try clear hx24
            try clear c26
            try clear c26b0
            try clear c26b1
            try clear c31
            try clear c32
            try clear c32b0
            try clear c32b1
            try clear hcz4_0
            try clear hcz4_1
            try clear hcz4_2
            try clear hfz4_0
            try clear hfz4_1
            try clear hfz4_2
            try clear p1
            try clear p15
            try clear p2
            try clear p24
            try clear p9
            try clear q1
            try clear q15
            try clear q24
            try clear q9
            obtain ⟨kq, x66_27, rfl, HA, HJ27, HO_6, HO_9, BK1061, HB⟩ := hcut
            cases kq with
            | zero => exact absurd HA.out (by simp [ratio_Read.j2])
            | succ kj27 =>
             have H := HA.out
             clear HA
             simp only [ratio_Read.j2] at H
             by_cases c34 : x66_27 = true
             ·subst c34
              have H1 : (some (false, ([] : List Int), ([] : List Int), 21)) = some (r1, r2, r3, r4) := by rw [if_pos rfl] at H; exact H
              clear H
              have H := H1
              clear H1
              simp only [Option.some.injEq, Prod.mk.injEq] at H
              obtain ⟨rfl, rfl, rfl, rfl⟩ := H
              have hcz35_0 : wc.cell? ⟨gb1061, 0, none⟩ = some (.bool false) := (Zl BK1061.out 0).trans rfl
              have hcz35_1 : wc.cell? ⟨gb1061, 1, none⟩ = some (.slice none 0 0) := (Zl BK1061.out 1).trans rfl
              have hcz35_2 : wc.cell? ⟨gb1061, 2, none⟩ = some (.slice none 0 0) := (Zl BK1061.out 2).trans rfl
              have hfz35_0 := Zn BK1061.out 0
              have hfz35_1 := Zn BK1061.out 1
              have hfz35_2 := Zn BK1061.out 2
              go_wp2
              refine bodyPost_ret (results_ct rfl _ _ gb1061 50 #[.bool false, .slice none 0 0, .slice none 0 0] (0, 0) _ rfl (by (with_reducible repeat (first | refine Zg ?_ _ | refine Zi ?_ | refine Zh ?_ _)); refine Ym (cs := #[.bool false, .slice none 0 0, .slice none 0 0]) ?_ 2 _ rfl; (with_reducible repeat (first | refine Zg ?_ _ | refine Zi ?_ | refine Zh ?_ _)); refine Ym (cs := #[.bool false, .slice none 0 0, .slice none 0 0]) ?_ 1 _ rfl; (with_reducible repeat (first | refine Zg ?_ _ | refine Zi ?_ | refine Zh ?_ _)); refine Ym (cs := #[.bool false, .slice none 0 0, .slice none 0 0]) ?_ 0 _ rfl; (with_reducible repeat (first | refine Zg ?_ _ | refine Zi ?_ | refine Zh ?_ _)); exact BK1061.out) Try.underlying50 rfl (by kernel_rfl)) rfl ?_
              exact ⟨_, _, by first | rfl | (simp [Zp, Zo] <;> rfl) | (simp [*, Zp, Zo] <;> rfl), by first | exact Kd.R_nil _ _ _ _ _ | exact Kd.N_nil _ _ _ _ _ | exact Kd.V_nil _ _ _ _ _ | exact Kd.Q_nil _ _ _ _ _ | exact Kd.S_nil _ _ _ _ _, by first | exact Kd.R_nil _ _ _ _ _ | exact Kd.N_nil _ _ _ _ _ | exact Kd.V_nil _ _ _ _ _ | exact Kd.Q_nil _ _ _ _ _ | exact Kd.S_nil _ _ _ _ _, by repeat (first | (with_reducible first | exact HB.out | apply Zb | apply Za | apply Zc | refine Zd ?_ GE1061.out) | exact HB.out)⟩
             ·replace c34 := Bool.eq_false_iff.mpr c34
              subst c34
              have H1 : (ratio_Read.j3 kj27 x4_11 t1063 t1072) = some (r1, r2, r3, r4) := by rw [if_neg (show ¬ (false = true) by decide)] at H; exact H
              clear H
              have H := H1
              clear H1
              have H' := Yt.mk H
              clear H
              go_wp2
              go_meet
              case rel => exact ⟨_, (t1072), (false), H', ⟨by have := HJ4.out; have := HJ11.out; have := HJ27.out; first | omega | exact Nat.le_refl _⟩, ⟨by (with_reducible repeat (first | apply Kd.Zf | apply Kd.Ze | apply Kd.Zj)); exact HO_6.out⟩, ⟨by (with_reducible repeat (first | apply Kd.Zf | apply Kd.Ze | apply Kd.Zj)); exact HO_9.out⟩, ⟨by (with_reducible repeat (first | refine Zg ?_ _ | refine Zi ?_ | refine Zh ?_ _)); exact BK1061.out⟩, ⟨by repeat (first | (with_reducible first | exact HB.out | apply Zb | apply Za | apply Zc | refine Zd ?_ GE1061.out) | exact HB.out)⟩⟩
          ·rw [if_neg c26] at H
           have c26b0 : (t1071 == 3) = false := beq_eq_false_iff_ne.mpr c26
           have c26b1 : (t1071 != 3) = true := bne_iff_ne.mpr c26
           simp only [Option.some.injEq, Prod.mk.injEq] at H
           obtain ⟨rfl, rfl, rfl, rfl⟩ := H
           have p24 : 0 ≤ (t1064 : Int) := of_decide_eq_true (by first | (with_reducible assumption) | assumption)
           have q24 : t1064 < (a0.size : Int) := of_decide_eq_true (by first | (with_reducible assumption) | assumption)
           have hx24 := bt_at a0 t1064
           replace p24 := eq_true p24
           replace q24 := eq_true q24
           go_wp2_with (first | ((with_reducible refine Zr (f := 99) rfl ?_); refine Yg (some 43) rfl rfl Try.func99 (by kernel_rfl) rfl #[.int .u8 (bt a0 t1064)] rfl (by (try simp only [List.map_toArray, List.map_cons, List.map_nil]); first | done | rfl | (simp only [List.length_drop, List.length_take]; rfl)) ?_; (with_reducible refine (ratio_class.calls (bt a0 t1064) t1071 _ A25.out).mono ?_); rintro e w36 ⟨rfl, hb⟩; refine ⟨_, rfl, ?_⟩; have n0_ := Yt.mk (Kd.Yd (by (with_reducible repeat (first | apply Kd.Zf | apply Kd.Ze | apply Kd.Zj)); exact HO1067.out) hb); have n1_ := Yt.mk (Kd.Yd (by (with_reducible repeat (first | apply Kd.Zf | apply Kd.Ze | apply Kd.Zj)); exact HO1070.out) hb); have n2_ := Yt.mk (Zq (g := gb1061) (o := .cells #[.bool false, .slice none 0 0, .slice none 0 0] 50 (0, 0)) (by (with_reducible repeat (first | refine Zg ?_ _ | refine Zi ?_ | refine Zh ?_ _)); exact BK1061.out) hb); have n3_ := Yt.mk (Zm (by repeat (first | (with_reducible first | exact HB.out | apply Zb | apply Za | apply Zc | refine Zd ?_ GE1061.out) | exact HB.out)) hb); clear HO1067; clear HO1070; clear BK1061; clear HB; have HO1067 := n0_; have HO1070 := n1_; have BK1061 := n2_; have HB := n3_; clear n0_ n1_ n2_ n3_; (try clear hb); (try clear hb2); (try clear hk); (try clear hi); have hcz37_0 : w36.cell? ⟨gb1061, 0, none⟩ = some (.bool false) := (Zl BK1061.out 0).trans rfl; have hcz37_1 : w36.cell? ⟨gb1061, 1, none⟩ = some (.slice none 0 0) := (Zl BK1061.out 1).trans rfl; have hcz37_2 : w36.cell? ⟨gb1061, 2, none⟩ = some (.slice none 0 0) := (Zl BK1061.out 2).trans rfl; have hfz37_0 := Zn BK1061.out 0; have hfz37_1 := Zn BK1061.out 1; have hfz37_2 := Zn BK1061.out 2))
           refine bodyPost_ret (results_ct rfl _ _ gb1061 50 #[.bool false, .slice none 0 0, .slice none 0 0] (0, 0) _ rfl (by (with_reducible repeat (first | refine Zg ?_ _ | refine Zi ?_ | refine Zh ?_ _)); refine Ym (cs := #[.bool false, .slice none 0 0, .slice none 0 0]) ?_ 2 _ rfl; (with_reducible repeat (first | refine Zg ?_ _ | refine Zi ?_ | refine Zh ?_ _)); refine Ym (cs := #[.bool false, .slice none 0 0, .slice none 0 0]) ?_ 1 _ rfl; (with_reducible repeat (first | refine Zg ?_ _ | refine Zi ?_ | refine Zh ?_ _)); refine Ym (cs := #[.bool false, .slice none 0 0, .slice none 0 0]) ?_ 0 _ rfl; (with_reducible repeat (first | refine Zg ?_ _ | refine Zi ?_ | refine Zh ?_ _)); exact BK1061.out) Try.underlying50 rfl (by kernel_rfl)) rfl ?_
           exact ⟨_, _, by first | rfl | (simp [Zp, Zo] <;> rfl) | (simp [*, Zp, Zo] <;> rfl), by first | exact Kd.R_nil _ _ _ _ _ | exact Kd.N_nil _ _ _ _ _ | exact Kd.V_nil _ _ _ _ _ | exact Kd.Q_nil _ _ _ _ _ | exact Kd.S_nil _ _ _ _ _, by first | exact Kd.R_nil _ _ _ _ _ | exact Kd.N_nil _ _ _ _ _ | exact Kd.V_nil _ _ _ _ _ | exact Kd.Q_nil _ _ _ _ _ | exact Kd.S_nil _ _ _ _ _, by repeat (first | (with_reducible first | exact HB.out | apply Zb | apply Za | apply Zc | refine Zd ?_ GE1061.out) | exact HB.out)⟩
         ·rw [if_neg c23] at H
          exact absurd H (by simp)
        ·rw [if_neg c22] at H
         have c22b0 : decide (t1064 < (a0.size : Int)) = false := decide_eq_false c22
         clear c22
         (first | rw [c22b0] | rw [c22b1] | (simp only [Yi, Yj]; rw [c22b0]) | skip)
         have H' := Yt.mk H
         clear H
         go_wp2
         go_meet
         case rel => exact ⟨_, (y1068), (false), H', ⟨by have := HJ4.out; have := HJ11.out; first | omega | exact Nat.le_refl _⟩, ⟨by (with_reducible repeat (first | apply Kd.Zf | apply Kd.Ze | apply Kd.Zj)); exact Kd.Zv HO1067.out (fun _ hk => hk.2)⟩, ⟨by (with_reducible repeat (first | apply Kd.Zf | apply Kd.Ze | apply Kd.Zj)); exact Kd.Zv HO1070.out (fun _ hk => hk.2)⟩, ⟨by (with_reducible repeat (first | refine Zg ?_ _ | refine Zi ?_ | refine Zh ?_ _)); exact BK1061.out⟩, ⟨by repeat (first | (with_reducible first | exact HB.out | apply Zb | apply Za | apply Zc | refine Zd ?_ GE1061.out) | exact HB.out)⟩⟩
       case rest =>
        clear HC18
        try clear c1
        try clear p1
        try clear q1
        try clear hx1
        try clear qi1
        try clear c2
        try clear c2b0
        try clear c2b1
        try clear p2
        try clear q2
        try clear hx2
        try clear c3
        try clear c5
        try clear p6
        try clear c7
        try clear c7b0
        try clear c7b1
        try clear c8
        try clear c8b0
        try clear c8b1
        try clear c9
        try clear p9
        try clear q9
        try clear hx9
        try clear qi9
        try clear c10
        try clear c13
        try clear c14
        try clear c14b0
        try clear c14b1
        try clear p15
        try clear q15
        try clear hx15
        try clear qi15
        try clear c17
        try clear c22
        try clear c22b0
        try clear c22b1
        try clear c23
        try clear c23b0
        try clear p24
        try clear q24
        try clear hx24
        try clear c26
        try clear c26b0
        try clear c26b1
        try clear c31
        try clear c32
        try clear c32b0
        try clear c32b1
        try clear c34
        try clear hcz35_0
        try clear hcz35_1
        try clear hcz35_2
        try clear hcz37_0
        try clear hcz37_1
        try clear hcz37_2
        try clear hcz4_0
        try clear hcz4_1
        try clear hcz4_2
        try clear hfz35_0
        try clear hfz35_1
        try clear hfz35_2
        try clear hfz37_0
        try clear hfz37_1
        try clear hfz37_2
        try clear hfz4_0
        try clear hfz4_1
        try clear hfz4_2
        try clear p1
        try clear p15
        try clear p2
        try clear p24
        try clear p6
        try clear p9
        try clear q1
        try clear q15
        try clear q2
        try clear q24
        try clear q9
        obtain ⟨kq, x9_17, x1062000_17, HA, HJ17, HO_6, HO_9, BK1061, HB⟩ := hcut
        cases kq with
        | zero => exact absurd HA.out (by simp [ratio_Read.j3])
        | succ kj17 =>
         have H := HA.out
         clear HA
         simp only [ratio_Read.j3] at H
         replace H := Option.bind_eq_some_iff.mp H
         obtain ⟨⟨t1077, t1078, t1081, t1084⟩, A380, H⟩ := H
         replace H : (some (t1077, t1078, t1081, t1084)) = some (r1, r2, r3, r4) := H
         have A38 := Yt.mk A380
         clear A380
         simp only [Option.some.injEq, Prod.mk.injEq] at H
         obtain ⟨rfl, rfl, rfl, rfl⟩ := H
         obtain ⟨Ao39, co39, eo39⟩ := Kd.Zx HO_6.out
         subst eo39
         obtain ⟨Ao40, co40, eo40⟩ := Kd.Zx HO_9.out
         subst eo40
         go_wp2_with (first | ((with_reducible refine Zr (f := 48) rfl ?_); refine Yg (some 71) rfl rfl Try.func48 (by kernel_rfl) rfl #[.bool x4_11, .slice Ao39 t1063.length co39, .slice Ao40 x9_17.length co40] rfl (by (try simp only [List.map_toArray, List.map_cons, List.map_nil]); first | done | rfl | (simp only [List.length_drop, List.length_take]; rfl)) ?_; (with_reducible refine (ratio_Make.calls kj17 x4_11 _ _ t1063 _ _ x9_17 t1077 t1078 t1081 t1084 _ ?side1 ?side2 ?side3 ?side4 A38.out).mono ?_); (case side1 => repeat (first | exact (Kd.Zs HO_6.out).2.2 | (with_reducible refine Kd.Zu ?_ _) | (with_reducible refine Kd.Zt ?_ _) | (with_reducible refine Kd.Yc ?_))); (case side2 => exact (Kd.Zs HO_6.out).2.1); (case side3 => repeat (first | exact (Kd.Zs HO_9.out).2.2 | (with_reducible refine Kd.Zu ?_ _) | (with_reducible refine Kd.Zt ?_ _) | (with_reducible refine Kd.Yc ?_))); (case side4 => exact (Kd.Zs HO_9.out).2.1); rintro e w41 ⟨v1079, v1082, rfl, ho0, ho1, hb⟩; refine ⟨_, rfl, ?_⟩; have n0_ := Yt.mk (Kd.Zv (Kd.Yl (Kd.Yl (Kd.R_old (by (with_reducible repeat (first | apply Kd.Zf | apply Kd.Ze | apply Kd.Zj)); exact HO_6.out) hb) (Kd.Zw ho0)) (Kd.Zw ho1)) (fun _ h_ => h_.1)); have n1_ := Yt.mk (Kd.Zv (Kd.Yl (Kd.Yl (Kd.R_old (by (with_reducible repeat (first | apply Kd.Zf | apply Kd.Ze | apply Kd.Zj)); exact HO_9.out) hb) (Kd.Zw ho0)) (Kd.Zw ho1)) (fun _ h_ => h_.1)); have n2_ := Yt.mk (Kd.Yb (Kd.Ya (Kd.Ya ho0 (Kd.R_lt (by (with_reducible repeat (first | apply Kd.Zf | apply Kd.Ze | apply Kd.Zj)); exact HO_6.out))) (Kd.R_lt (by (with_reducible repeat (first | apply Kd.Zf | apply Kd.Ze | apply Kd.Zj)); exact HO_9.out))) (Zk (by repeat (first | (with_reducible first | exact HB.out | apply Zb | apply Za | apply Zc | refine Zd ?_ GE1061.out) | exact HB.out)))); have n3_ := Yt.mk (Kd.Yb (Kd.Ya (Kd.Ya ho1 (Kd.R_lt (by (with_reducible repeat (first | apply Kd.Zf | apply Kd.Ze | apply Kd.Zj)); exact HO_6.out))) (Kd.R_lt (by (with_reducible repeat (first | apply Kd.Zf | apply Kd.Ze | apply Kd.Zj)); exact HO_9.out))) (Zk (by repeat (first | (with_reducible first | exact HB.out | apply Zb | apply Za | apply Zc | refine Zd ?_ GE1061.out) | exact HB.out)))); have n4_ := Yt.mk (Zq (g := gb1061) (o := .cells #[.bool x1062000_17, .slice none 0 0, .slice none 0 0] 50 (0, 0)) (by (with_reducible repeat (first | refine Zg ?_ _ | refine Zi ?_ | refine Zh ?_ _)); exact BK1061.out) hb); have n5_ := Yt.mk (Zm (by repeat (first | (with_reducible first | exact HB.out | apply Zb | apply Za | apply Zc | refine Zd ?_ GE1061.out) | exact HB.out)) hb); clear HO_6; clear HO_9; clear BK1061; clear HB; have HO_6 := n0_; have HO_9 := n1_; have HO1080 := n2_; have HO1083 := n3_; have BK1061 := n4_; have HB := n5_; clear n0_ n1_ n2_ n3_ n4_ n5_; (try clear hb); (try clear hb2); (try clear hk); (try clear hi); (try clear ho0); (try clear ho1); have hcz42_0 : w41.cell? ⟨gb1061, 0, none⟩ = some (.bool x1062000_17) := (Zl BK1061.out 0).trans rfl; have hcz42_1 : w41.cell? ⟨gb1061, 1, none⟩ = some (.slice none 0 0) := (Zl BK1061.out 1).trans rfl; have hcz42_2 : w41.cell? ⟨gb1061, 2, none⟩ = some (.slice none 0 0) := (Zl BK1061.out 2).trans rfl; have hfz42_0 := Zn BK1061.out 0; have hfz42_1 := Zn BK1061.out 1; have hfz42_2 := Zn BK1061.out 2; obtain ⟨Ao43, co43, eo43⟩ := Kd.Zx HO1080.out; subst eo43; obtain ⟨Ao44, co44, eo44⟩ := Kd.Zx HO1083.out; subst eo44))
         refine bodyPost_ret (results_ct rfl _ _ gb1061 50 #[.bool t1077, .slice Ao43 t1078.length co43, .slice Ao44 t1081.length co44] (0, 0) _ rfl (by (with_reducible repeat (first | refine Zg ?_ _ | refine Zi ?_ | refine Zh ?_ _)); refine Ym (cs := #[.bool t1077, .slice Ao43 t1078.length co43, .slice none 0 0]) ?_ 2 _ rfl; (with_reducible repeat (first | refine Zg ?_ _ | refine Zi ?_ | refine Zh ?_ _)); refine Ym (cs := #[.bool t1077, .slice none 0 0, .slice none 0 0]) ?_ 1 _ rfl; (with_reducible repeat (first | refine Zg ?_ _ | refine Zi ?_ | refine Zh ?_ _)); refine Ym (cs := #[.bool x1062000_17, .slice none 0 0, .slice none 0 0]) ?_ 0 _ rfl; (with_reducible repeat (first | refine Zg ?_ _ | refine Zi ?_ | refine Zh ?_ _)); exact BK1061.out) Try.underlying50 rfl (by kernel_rfl)) rfl ?_
         exact ⟨_, _, by first | rfl | (simp [Zp, Zo] <;> rfl) | (simp [*, Zp, Zo] <;> rfl), by (with_reducible repeat (first | apply Kd.Zf | apply Kd.Ze | apply Kd.Zj)); exact Kd.Zv (Kd.Yh (p := ⟨gb1061, 2, none⟩) (Kd.Yh (p := ⟨gb1061, 1, none⟩) (Kd.Yh (p := ⟨gb1061, 0, none⟩) (Kd.Yq HO1080.out BK1061.out (by decide)) (fun _ hk => hk.2) (.bool t1077)) (fun _ hk => hk.2) (.slice Ao43 t1078.length co43)) (fun _ hk => hk.2) (.slice Ao44 t1081.length co44)) (fun _ hk => hk.1.1.1), by (with_reducible repeat (first | apply Kd.Zf | apply Kd.Ze | apply Kd.Zj)); exact Kd.Zv (Kd.Yh (p := ⟨gb1061, 2, none⟩) (Kd.Yh (p := ⟨gb1061, 1, none⟩) (Kd.Yh (p := ⟨gb1061, 0, none⟩) (Kd.Yq HO1083.out BK1061.out (by decide)) (fun _ hk => hk.2) (.bool t1077)) (fun _ hk => hk.2) (.slice Ao43 t1078.length co43)) (fun _ hk => hk.2) (.slice Ao44 t1081.length co44)) (fun _ hk => hk.1.1.1), by repeat (first | (with_reducible first | exact HB.out | apply Zb | apply Za | apply Zc | refine Zd ?_ GE1061.out) | exact HB.out)⟩
      ·replace c17 := Bool.eq_false_iff.mpr c17
       subst c17
       have H1 : (some (false, ([] : List Int), ([] : List Int), 21)) = some (r1, r2, r3, r4) := by rw [if_neg (show ¬ (false = true) by decide)] at H; exact H
       clear H
       have H := H1
       clear H1
       simp only [Option.some.injEq, Prod.mk.injEq] at H
       obtain ⟨rfl, rfl, rfl, rfl⟩ := H
       go_wp2_with (first | ((with_reducible refine Zr (f := 100) rfl ?_); refine Yg (some 28) rfl rfl Try.func100 (by kernel_rfl) rfl #[.string a0, .int .i64 x5_11] rfl (by (try simp only [List.map_toArray, List.map_cons, List.map_nil]); first | done | rfl | (simp only [List.length_drop, List.length_take]; rfl)) ?_; (with_reducible refine (ratio_natDigits.calls kj11 a0 x5_11 t1063 t1064 false _ A16.out).mono ?_); rintro e w45 ⟨v1066, rfl, ho0, hb⟩; refine ⟨_, rfl, ?_⟩; have n0_ := Yt.mk (Kd.Yb ho0 (Zk (by repeat (first | (with_reducible first | exact HB.out | apply Zb | apply Za | apply Zc | refine Zd ?_ GE1061.out) | exact HB.out)))); have n1_ := Yt.mk (Zq (g := gb1061) (o := .cells #[.bool false, .slice none 0 0, .slice none 0 0] 50 (0, 0)) (by (with_reducible repeat (first | refine Zg ?_ _ | refine Zi ?_ | refine Zh ?_ _)); exact BK1061.out) hb); have n2_ := Yt.mk (Zm (by repeat (first | (with_reducible first | exact HB.out | apply Zb | apply Za | apply Zc | refine Zd ?_ GE1061.out) | exact HB.out)) hb); clear BK1061; clear HB; have HO1067 := n0_; have BK1061 := n1_; have HB := n2_; clear n0_ n1_ n2_; (try clear hb); (try clear hb2); (try clear hk); (try clear hi); (try clear ho0); have hcz46_0 : w45.cell? ⟨gb1061, 0, none⟩ = some (.bool false) := (Zl BK1061.out 0).trans rfl; have hcz46_1 : w45.cell? ⟨gb1061, 1, none⟩ = some (.slice none 0 0) := (Zl BK1061.out 1).trans rfl; have hcz46_2 : w45.cell? ⟨gb1061, 2, none⟩ = some (.slice none 0 0) := (Zl BK1061.out 2).trans rfl; have hfz46_0 := Zn BK1061.out 0; have hfz46_1 := Zn BK1061.out 1; have hfz46_2 := Zn BK1061.out 2))
       refine bodyPost_ret (results_ct rfl _ _ gb1061 50 #[.bool false, .slice none 0 0, .slice none 0 0] (0, 0) _ rfl (by (with_reducible repeat (first | refine Zg ?_ _ | refine Zi ?_ | refine Zh ?_ _)); refine Ym (cs := #[.bool false, .slice none 0 0, .slice none 0 0]) ?_ 2 _ rfl; (with_reducible repeat (first | refine Zg ?_ _ | refine Zi ?_ | refine Zh ?_ _)); refine Ym (cs := #[.bool false, .slice none 0 0, .slice none 0 0]) ?_ 1 _ rfl; (with_reducible repeat (first | refine Zg ?_ _ | refine Zi ?_ | refine Zh ?_ _)); refine Ym (cs := #[.bool false, .slice none 0 0, .slice none 0 0]) ?_ 0 _ rfl; (with_reducible repeat (first | refine Zg ?_ _ | refine Zi ?_ | refine Zh ?_ _)); exact BK1061.out) Try.underlying50 rfl (by kernel_rfl)) rfl ?_
       exact ⟨_, _, by first | rfl | (simp [Zp, Zo] <;> rfl) | (simp [*, Zp, Zo] <;> rfl), by first | exact Kd.R_nil _ _ _ _ _ | exact Kd.N_nil _ _ _ _ _ | exact Kd.V_nil _ _ _ _ _ | exact Kd.Q_nil _ _ _ _ _ | exact Kd.S_nil _ _ _ _ _, by first | exact Kd.R_nil _ _ _ _ _ | exact Kd.N_nil _ _ _ _ _ | exact Kd.V_nil _ _ _ _ _ | exact Kd.Q_nil _ _ _ _ _ | exact Kd.S_nil _ _ _ _ _, by repeat (first | (with_reducible first | exact HB.out | apply Zb | apply Za | apply Zc | refine Zd ?_ GE1061.out) | exact HB.out)⟩
def sibyllaw02_wakes.f (k : Nat)  : Option (Bool) := (ratio_Make.f k true (([6] : List Int)) (([4] : List Int))).bind fun bt1155 => ((ratio_Text.f k bt1155.1 bt1155.2.1 bt1155.2.2.1).bind fun bt1164 => ((ratio_Read.f k (⟨#[43, 48, 54, 47, 52]⟩ : ByteArray)).bind fun bt1166 => ((ratio_Add.f k bt1166.1 bt1166.2.1 bt1166.2.2.1 bt1155.1 bt1155.2.1 bt1155.2.2.1).bind fun bt1175 => (if bt1155.2.2.2 = 0 then (if bt1164.2 = 0 then (if bt1166.2.2.2 = 0 then (if bt1175.2.2.2 = 0 then (if bt1164.1.toList = ([45, 51, 47, 50] : List UInt8) then ((ratio_Of.f k 0).bind fun bt1184 => ((ratio_Same.f k bt1175.1 bt1175.2.1 bt1175.2.2.1 bt1184.1 bt1184.2.1 bt1184.2.2).bind fun t1191 => (if t1191 = true then ((ratio_Form.f k bt1155.1 bt1155.2.1 bt1155.2.2.1).bind fun t1192 => (if t1192 = true then ((ratio_Form.f k false ([] : List Int) ([] : List Int)).bind fun t1193 => (if t1193 = true then (none) else ((ratio_Same.f k bt1155.1 bt1155.2.1 bt1155.2.2.1 bt1166.1 bt1166.2.1 bt1166.2.2.1).bind fun t1194 => (some (!t1194))))) else (none))) else (none)))) else (none)) else (none)) else (none)) else (none)) else (none)))))
theorem sibyllaw02_wakes.mono : ∀ k, LeO (sibyllaw02_wakes.f k ) (sibyllaw02_wakes.f (k + 1) ) := by
 intro  k
 unfold sibyllaw02_wakes.f
 repeat' first
   | (with_reducible exact ratio_Add.mono _ _ _ _ _ _ _)
   | (with_reducible exact ratio_Form.mono _ _ _ _)
   | (with_reducible exact ratio_Make.mono _ _ _ _)
   | (with_reducible exact ratio_Of.mono _ _)
   | (with_reducible exact ratio_Read.mono _ _)
   | (with_reducible exact ratio_Same.mono _ _ _ _ _ _ _)
   | (with_reducible exact ratio_Text.mono _ _ _ _)
   | (with_reducible exact LeO.refl _)
   | (with_reducible exact LeO.none _)
   | (with_reducible refine LeO.ite ?_ ?_)
   | (with_reducible refine LeO.bind ?_ (fun _ => ?_))
   | exact ratio_Add.mono _ _ _ _ _ _ _
   | exact ratio_Form.mono _ _ _ _
   | exact ratio_Make.mono _ _ _ _
   | exact ratio_Of.mono _ _
   | exact ratio_Read.mono _ _
   | exact ratio_Same.mono _ _ _ _ _ _ _
   | exact ratio_Text.mono _ _ _ _
   | exact LeO.none _
   | refine LeO.ite ?_ ?_
   | refine LeO.bind ?_ (fun _ => ?_)
def sibyllaw02_wakes.T7 : Bool × List (List Nat × List Nat) := (true, [([], []), ([], []), ([0, 1, 1], [0, 1]), ([2, 2], [2]), ([3], [3]), ([4, 3, 3], [3, 4]), ([3, 5], [3, 5]), ([6, 5], [6]), ([7], [7]), ([8, 7, 7], [7, 8]), ([9, 7], [7, 9]), ([7, 10], [7, 10]), ([11, 9], [11]), ([12], [12]), ([12], [12]), ([13, 14, 12, 12], [12, 13, 14]), ([15, 12], [12, 15]), ([12, 16], [12, 16]), ([17, 15, 0, 1, 2, 3, 4, 5, 6, 7, 8, 9, 10, 11, 12, 13, 14, 15, 16, 17], [17])])
def sibyllaw02_wakes.B7 : List Nat := [0, 0, 3, 7, 15, 31, 63, 127, 255, 511, 1023, 2047, 4095, 8191, 8191, 32767, 65535, 131071, 262143]
theorem sibyllaw02_wakes.tab7 : rtab .any (opsOf Try.f47 7) = sibyllaw02_wakes.T7 := by kernel_rfl
theorem sibyllaw02_wakes.bits7 : waitsOk sibyllaw02_wakes.T7.2 sibyllaw02_wakes.B7 = true := by kernel_rfl
set_option maxHeartbeats 8000000 in
set_option maxRecDepth 100000 in
theorem sibyllaw02_wakes.calls (k : Nat)  (r : Bool) (w : World) (h : sibyllaw02_wakes.f k  = some r) :
  Calls Try.prog 47 #[] w fun e w' => e = .returned (.bool r) ∧ Below w.heap.size w w' := by
 have hu50 := Try.underlying50
 have HB := Yt.mk (Below.refl w.heap.size w)
 have H : ((ratio_Make.f k true (([6] : List Int)) (([4] : List Int))).bind fun bt1155 => ((ratio_Text.f k bt1155.1 bt1155.2.1 bt1155.2.2.1).bind fun bt1164 => ((ratio_Read.f k (⟨#[43, 48, 54, 47, 52]⟩ : ByteArray)).bind fun bt1166 => ((ratio_Add.f k bt1166.1 bt1166.2.1 bt1166.2.2.1 bt1155.1 bt1155.2.1 bt1155.2.2.1).bind fun bt1175 => (if bt1155.2.2.2 = 0 then (if bt1164.2 = 0 then (if bt1166.2.2.2 = 0 then (if bt1175.2.2.2 = 0 then (if bt1164.1.toList = ([45, 51, 47, 50] : List UInt8) then ((ratio_Of.f k 0).bind fun bt1184 => ((ratio_Same.f k bt1175.1 bt1175.2.1 bt1175.2.2.1 bt1184.1 bt1184.2.1 bt1184.2.2).bind fun t1191 => (if t1191 = true then ((ratio_Form.f k bt1155.1 bt1155.2.1 bt1155.2.2.1).bind fun t1192 => (if t1192 = true then ((ratio_Form.f k false ([] : List Int) ([] : List Int)).bind fun t1193 => (if t1193 = true then (none) else ((ratio_Same.f k bt1155.1 bt1155.2.1 bt1155.2.2.1 bt1166.1 bt1166.2.1 bt1166.2.2.1).bind fun t1194 => (some (!t1194))))) else (none))) else (none)))) else (none)) else (none)) else (none)) else (none)) else (none)))))) = some r := h
 clear h
 obtain ⟨y1149, hy1149⟩ : ∃ y_ : List Int, y_ = (([6] : List Int)) := ⟨_, rfl⟩
 replace H : ((ratio_Make.f k true y1149 (([4] : List Int))).bind fun bt1155 => ((ratio_Text.f k bt1155.1 bt1155.2.1 bt1155.2.2.1).bind fun bt1164 => ((ratio_Read.f k (⟨#[43, 48, 54, 47, 52]⟩ : ByteArray)).bind fun bt1166 => ((ratio_Add.f k bt1166.1 bt1166.2.1 bt1166.2.2.1 bt1155.1 bt1155.2.1 bt1155.2.2.1).bind fun bt1175 => (if bt1155.2.2.2 = 0 then (if bt1164.2 = 0 then (if bt1166.2.2.2 = 0 then (if bt1175.2.2.2 = 0 then (if bt1164.1.toList = ([45, 51, 47, 50] : List UInt8) then ((ratio_Of.f k 0).bind fun bt1184 => ((ratio_Same.f k bt1175.1 bt1175.2.1 bt1175.2.2.1 bt1184.1 bt1184.2.1 bt1184.2.2).bind fun t1191 => (if t1191 = true then ((ratio_Form.f k bt1155.1 bt1155.2.1 bt1155.2.2.1).bind fun t1192 => (if t1192 = true then ((ratio_Form.f k false ([] : List Int) ([] : List Int)).bind fun t1193 => (if t1193 = true then (none) else ((ratio_Same.f k bt1155.1 bt1155.2.1 bt1155.2.2.1 bt1166.1 bt1166.2.1 bt1166.2.2.1).bind fun t1194 => (some (!t1194))))) else (none))) else (none)))) else (none)) else (none)) else (none)) else (none)) else (none)))))) = some r := by first | (rw [hy1149]; with_reducible exact H) | (have H2_ := (Option.bind_some _ _).symm.trans H; rw [hy1149]; with_reducible exact H2_) | (have H2_ := (Option.bind_some _ _).symm.trans H; with_reducible exact H2_) | with_reducible exact H | (rw [hy1149]; exact H) | exact H
 have Ny1149 := Yt.mk hy1149
 clear hy1149
 obtain ⟨y1152, hy1152⟩ : ∃ y_ : List Int, y_ = (([4] : List Int)) := ⟨_, rfl⟩
 replace H : ((ratio_Make.f k true y1149 y1152).bind fun bt1155 => ((ratio_Text.f k bt1155.1 bt1155.2.1 bt1155.2.2.1).bind fun bt1164 => ((ratio_Read.f k (⟨#[43, 48, 54, 47, 52]⟩ : ByteArray)).bind fun bt1166 => ((ratio_Add.f k bt1166.1 bt1166.2.1 bt1166.2.2.1 bt1155.1 bt1155.2.1 bt1155.2.2.1).bind fun bt1175 => (if bt1155.2.2.2 = 0 then (if bt1164.2 = 0 then (if bt1166.2.2.2 = 0 then (if bt1175.2.2.2 = 0 then (if bt1164.1.toList = ([45, 51, 47, 50] : List UInt8) then ((ratio_Of.f k 0).bind fun bt1184 => ((ratio_Same.f k bt1175.1 bt1175.2.1 bt1175.2.2.1 bt1184.1 bt1184.2.1 bt1184.2.2).bind fun t1191 => (if t1191 = true then ((ratio_Form.f k bt1155.1 bt1155.2.1 bt1155.2.2.1).bind fun t1192 => (if t1192 = true then ((ratio_Form.f k false ([] : List Int) ([] : List Int)).bind fun t1193 => (if t1193 = true then (none) else ((ratio_Same.f k bt1155.1 bt1155.2.1 bt1155.2.2.1 bt1166.1 bt1166.2.1 bt1166.2.2.1).bind fun t1194 => (some (!t1194))))) else (none))) else (none)))) else (none)) else (none)) else (none)) else (none)) else (none)))))) = some r := by first | (rw [hy1152]; with_reducible exact H) | (have H2_ := (Option.bind_some _ _).symm.trans H; rw [hy1152]; with_reducible exact H2_) | (have H2_ := (Option.bind_some _ _).symm.trans H; with_reducible exact H2_) | with_reducible exact H | (rw [hy1152]; exact H) | exact H
 have Ny1152 := Yt.mk hy1152
 clear hy1152
 replace H := Option.bind_eq_some_iff.mp H
 obtain ⟨⟨t1155, t1156, t1159, t1162⟩, A10, H⟩ := H
 try dsimp only at H
 have A1 := Yt.mk A10
 clear A10
 replace H := Option.bind_eq_some_iff.mp H
 obtain ⟨⟨t1164, t1165⟩, A20, H⟩ := H
 try dsimp only at H
 have A2 := Yt.mk A20
 clear A20
 replace H := Option.bind_eq_some_iff.mp H
 obtain ⟨⟨t1166, t1167, t1170, t1173⟩, A30, H⟩ := H
 try dsimp only at H
 have A3 := Yt.mk A30
 clear A30
 replace H := Option.bind_eq_some_iff.mp H
 obtain ⟨⟨t1175, t1176, t1179, t1182⟩, A40, H⟩ := H
 try dsimp only at H
 have A4 := Yt.mk A40
 clear A40
 by_cases c5 : t1162 = 0
 ·rw [if_pos c5] at H
  have c5b0 : (t1162 == 0) = true := beq_iff_eq.mpr c5
  have c5b1 : (t1162 != 0) = false := bne_eq_false_iff_eq.mpr c5
  clear c5
  by_cases c6 : t1165 = 0
  ·rw [if_pos c6] at H
   have c6b0 : (t1165 == 0) = true := beq_iff_eq.mpr c6
   have c6b1 : (t1165 != 0) = false := bne_eq_false_iff_eq.mpr c6
   clear c6
   by_cases c7 : t1173 = 0
   ·rw [if_pos c7] at H
    have c7b0 : (t1173 == 0) = true := beq_iff_eq.mpr c7
    have c7b1 : (t1173 != 0) = false := bne_eq_false_iff_eq.mpr c7
    clear c7
    by_cases c8 : t1182 = 0
    ·rw [if_pos c8] at H
     have c8b0 : (t1182 == 0) = true := beq_iff_eq.mpr c8
     have c8b1 : (t1182 != 0) = false := bne_eq_false_iff_eq.mpr c8
     clear c8
     by_cases c9 : t1164.toList = ([45, 51, 47, 50] : List UInt8)
     ·rw [if_pos c9] at H
      have c9b0 : (t1164.toList == ([45, 51, 47, 50] : List UInt8)) = true := beq_iff_eq.mpr c9
      have c9b1 : (t1164.toList != ([45, 51, 47, 50] : List UInt8)) = false := bne_eq_false_iff_eq.mpr c9
      clear c9
      replace H := Option.bind_eq_some_iff.mp H
      obtain ⟨⟨t1184, t1185, t1188⟩, A100, H⟩ := H
      try dsimp only at H
      have A10 := Yt.mk A100
      clear A100
      replace H := Option.bind_eq_some_iff.mp H
      obtain ⟨t1191, A110, H⟩ := H
      try dsimp only at H
      have A11 := Yt.mk A110
      clear A110
      by_cases c12 : t1191 = true
      ·subst c12
       have H1 : ((ratio_Form.f k t1155 t1156 t1159).bind fun t1192 => (if t1192 = true then ((ratio_Form.f k false ([] : List Int) ([] : List Int)).bind fun t1193 => (if t1193 = true then (none) else ((ratio_Same.f k t1155 t1156 t1159 t1166 t1167 t1170).bind fun t1194 => (some (!t1194))))) else (none))) = some r := by rw [if_pos rfl] at H; exact H
       clear H
       have H := H1
       clear H1
       replace H := Option.bind_eq_some_iff.mp H
       obtain ⟨t1192, A130, H⟩ := H
       try dsimp only at H
       have A13 := Yt.mk A130
       clear A130
       by_cases c14 : t1192 = true
       ·subst c14
        have H1 : ((ratio_Form.f k false ([] : List Int) ([] : List Int)).bind fun t1193 => (if t1193 = true then (none) else ((ratio_Same.f k t1155 t1156 t1159 t1166 t1167 t1170).bind fun t1194 => (some (!t1194))))) = some r := by rw [if_pos rfl] at H; exact H
        clear H
        have H := H1
        clear H1
        replace H := Option.bind_eq_some_iff.mp H
        obtain ⟨t1193, A150, H⟩ := H
        try dsimp only at H
        have A15 := Yt.mk A150
        clear A150
        by_cases c16 : t1193 = true
        ·subst c16
         have H1 : (none) = some r := by rw [if_pos rfl] at H; exact H
         clear H
         have H := H1
         clear H1
         exact absurd H (by simp)
        ·replace c16 := Bool.eq_false_iff.mpr c16
         subst c16
         have H1 : ((ratio_Same.f k t1155 t1156 t1159 t1166 t1167 t1170).bind fun t1194 => (some (!t1194))) = some r := by rw [if_neg (show ¬ (false = true) by decide)] at H; exact H
         clear H
         have H := H1
         clear H1
         replace H := Option.bind_eq_some_iff.mp H
         obtain ⟨t1194, A170, H⟩ := H
         replace H : (some (!t1194)) = some r := H
         have A17 := Yt.mk A170
         clear A170
         obtain rfl := Option.some.inj H
         go_enter Try.func47, Try.ntmps47
         try go_wp2_with (first | ((with_reducible refine Yk (N := 10) rfl ?_); refine Kd.R_lit (Kd.int .u32) _ 47 ?hg (N := 10) ?hd (xs := ([6] : List Int)) (inner := [.int .u32 6]) (ok := fun _ => True) (okp := fun _ => True) ?hr ?hp (fun _ hk => hk) trivial (Below.refl _ _) (Nat.le_refl _) (by simp) ?_; (case hd => rfl); (case hg => rfl); (case hr => first | (go_simp; done) | (go_simp; rfl)); (case hp => exact (Reps.one (show Kd.M (Kd.int .u32) _ _ _ 6 [.int .u32 6] from rfl) (Reps.none _ _))); intro v1150 w18 ho19 hb hg_ hnew_; clear hg_ hnew_; (first | rw [← Ny1149.out] at ho19 | (simp only [Int.reduceToNat] at ho19; rw [← Ny1149.out] at ho19)); have n0_ := Yt.mk (Kd.Yb ho19 (Zk (by repeat (first | (with_reducible first | exact HB.out | apply Zb | apply Za | apply Zc) | exact HB.out)))); have n1_ := Yt.mk (Zm (by repeat (first | (with_reducible first | exact HB.out | apply Zb | apply Za | apply Zc) | exact HB.out)) hb); clear HB; have HO1151 := n0_; have HB := n1_; clear n0_ n1_; clear hb ho19) | ((with_reducible refine Yk (N := 11) rfl ?_); refine Kd.R_lit (Kd.int .u32) _ 47 ?hg (N := 11) ?hd (xs := ([4] : List Int)) (inner := [.int .u32 4]) (ok := fun _ => True) (okp := fun _ => True) ?hr ?hp (fun _ hk => hk) trivial (Below.refl _ _) (Nat.le_refl _) (by simp) ?_; (case hd => rfl); (case hg => rfl); (case hr => first | (go_simp; done) | (go_simp; rfl)); (case hp => exact (Reps.one (show Kd.M (Kd.int .u32) _ _ _ 4 [.int .u32 4] from rfl) (Reps.none _ _))); intro v1153 w20 ho21 hb hg_ hnew_; clear hg_ hnew_; (first | rw [← Ny1152.out] at ho21 | (simp only [Int.reduceToNat] at ho21; rw [← Ny1152.out] at ho21)); have n0_ := Yt.mk (Kd.Yf (by (with_reducible repeat (first | apply Kd.Zf | apply Kd.Ze | apply Kd.Zj)); exact HO1151.out) (Kd.Zw ho21) hb); have n1_ := Yt.mk (Kd.Yb (Kd.Ya ho21 (Kd.R_lt (by (with_reducible repeat (first | apply Kd.Zf | apply Kd.Ze | apply Kd.Zj)); exact HO1151.out))) (Zk (by repeat (first | (with_reducible first | exact HB.out | apply Zb | apply Za | apply Zc) | exact HB.out)))); have n2_ := Yt.mk (Zm (by repeat (first | (with_reducible first | exact HB.out | apply Zb | apply Za | apply Zc) | exact HB.out)) hb); clear HO1151; clear HB; have HO1151 := n0_; have HO1154 := n1_; have HB := n2_; clear n0_ n1_ n2_; clear hb ho21; obtain ⟨Ao22, co22, eo22⟩ := Kd.Zx HO1151.out; subst eo22; obtain ⟨Ao23, co23, eo23⟩ := Kd.Zx HO1154.out; subst eo23) | ((with_reducible refine Zr (f := 48) rfl ?_); refine Yg (some 12) rfl rfl Try.func48 (by kernel_rfl) rfl #[.bool true, .slice Ao22 y1149.length co22, .slice Ao23 y1152.length co23] rfl (by (try simp only [List.map_toArray, List.map_cons, List.map_nil]); first | done | rfl | (simp only [List.length_drop, List.length_take]; rfl)) ?_; (with_reducible refine (ratio_Make.calls k true _ _ y1149 _ _ y1152 t1155 t1156 t1159 t1162 _ ?side1 ?side2 ?side3 ?side4 A1.out).mono ?_); (case side1 => repeat (first | exact (Kd.Zs HO1151.out).2.2 | (with_reducible refine Kd.Zu ?_ _) | (with_reducible refine Kd.Zt ?_ _) | (with_reducible refine Kd.Yc ?_))); (case side2 => exact (Kd.Zs HO1151.out).2.1); (case side3 => repeat (first | exact (Kd.Zs HO1154.out).2.2 | (with_reducible refine Kd.Zu ?_ _) | (with_reducible refine Kd.Zt ?_ _) | (with_reducible refine Kd.Yc ?_))); (case side4 => exact (Kd.Zs HO1154.out).2.1); rintro e w24 ⟨v1157, v1160, rfl, ho0, ho1, hb⟩; refine ⟨_, rfl, ?_⟩; have n0_ := Yt.mk (Kd.Zv (Kd.Yl (Kd.Yl (Kd.R_old (by (with_reducible repeat (first | apply Kd.Zf | apply Kd.Ze | apply Kd.Zj)); exact HO1151.out) hb) (Kd.Zw ho0)) (Kd.Zw ho1)) (fun _ h_ => h_.1)); have n1_ := Yt.mk (Kd.Zv (Kd.Yl (Kd.Yl (Kd.R_old (by (with_reducible repeat (first | apply Kd.Zf | apply Kd.Ze | apply Kd.Zj)); exact HO1154.out) hb) (Kd.Zw ho0)) (Kd.Zw ho1)) (fun _ h_ => h_.1)); have n2_ := Yt.mk (Kd.Yb (Kd.Ya (Kd.Ya ho0 (Kd.R_lt (by (with_reducible repeat (first | apply Kd.Zf | apply Kd.Ze | apply Kd.Zj)); exact HO1151.out))) (Kd.R_lt (by (with_reducible repeat (first | apply Kd.Zf | apply Kd.Ze | apply Kd.Zj)); exact HO1154.out))) (Zk (by repeat (first | (with_reducible first | exact HB.out | apply Zb | apply Za | apply Zc) | exact HB.out)))); have n3_ := Yt.mk (Kd.Yb (Kd.Ya (Kd.Ya ho1 (Kd.R_lt (by (with_reducible repeat (first | apply Kd.Zf | apply Kd.Ze | apply Kd.Zj)); exact HO1151.out))) (Kd.R_lt (by (with_reducible repeat (first | apply Kd.Zf | apply Kd.Ze | apply Kd.Zj)); exact HO1154.out))) (Zk (by repeat (first | (with_reducible first | exact HB.out | apply Zb | apply Za | apply Zc) | exact HB.out)))); have n4_ := Yt.mk (Zm (by repeat (first | (with_reducible first | exact HB.out | apply Zb | apply Za | apply Zc) | exact HB.out)) hb); clear HO1151; clear HO1154; clear HB; have HO1151 := n0_; have HO1154 := n1_; have HO1158 := n2_; have HO1161 := n3_; have HB := n4_; clear n0_ n1_ n2_ n3_ n4_; (try clear hb); (try clear hb2); (try clear hk); (try clear hi); (try clear ho0); (try clear ho1)) | ((with_reducible refine Yk (N := 1) rfl ?_); refine Yo ?hg (N := 1) ?hd (cs := #[.bool false, .slice none 0 0, .slice none 0 0]) (t := 50) ?hr ?_; (case hd => rfl); (case hg => rfl); (case hr => first | (go_simp; done) | (go_simp; rfl)); intro gb1163 hg w25 hbox hb; have n0_ := Yt.mk (Kd.Yd (by (with_reducible repeat (first | apply Kd.Zf | apply Kd.Ze | apply Kd.Zj)); exact HO1151.out) hb); have n1_ := Yt.mk (Kd.Yd (by (with_reducible repeat (first | apply Kd.Zf | apply Kd.Ze | apply Kd.Zj)); exact HO1154.out) hb); have n2_ := Yt.mk (Kd.Yd (by (with_reducible repeat (first | apply Kd.Zf | apply Kd.Ze | apply Kd.Zj)); exact HO1158.out) hb); have n3_ := Yt.mk (Kd.Yd (by (with_reducible repeat (first | apply Kd.Zf | apply Kd.Ze | apply Kd.Zj)); exact HO1161.out) hb); have n4_ := Yt.mk (Zm (by repeat (first | (with_reducible first | exact HB.out | apply Zb | apply Za | apply Zc) | exact HB.out)) hb); have n5_ := Yt.mk (hbox); have n6_ := Yt.mk ((by rw [hg]; exact (Zk (by repeat (first | (with_reducible first | exact HB.out | apply Zb | apply Za | apply Zc) | exact HB.out))) : w.heap.size ≤ gb1163)); have n7_ := Yt.mk ((by rw [hg]; exact (Zk (by repeat (first | (with_reducible first | exact HB.out | apply Zb | apply Za | apply Zc) | exact HB.out))) : w.heap.size ≤ gb1163)); clear HO1151; clear HO1154; clear HO1158; clear HO1161; clear HB; have HO1151 := n0_; have HO1154 := n1_; have HO1158 := n2_; have HO1161 := n3_; have HB := n4_; have BK1163 := n5_; have GW1163 := n6_; have GE1163 := n7_; clear n0_ n1_ n2_ n3_ n4_ n5_ n6_ n7_; clear hb hbox hg; have hcz26_0 : w25.cell? ⟨gb1163, 0, none⟩ = some (.bool false) := (Zl BK1163.out 0).trans rfl; have hcz26_1 : w25.cell? ⟨gb1163, 1, none⟩ = some (.slice none 0 0) := (Zl BK1163.out 1).trans rfl; have hcz26_2 : w25.cell? ⟨gb1163, 2, none⟩ = some (.slice none 0 0) := (Zl BK1163.out 2).trans rfl; have hfz26_0 := Zn BK1163.out 0; have hfz26_1 := Zn BK1163.out 1; have hfz26_2 := Zn BK1163.out 2; obtain ⟨Ao27, co27, eo27⟩ := Kd.Zx HO1158.out; subst eo27; obtain ⟨Ao28, co28, eo28⟩ := Kd.Zx HO1161.out; subst eo28) | ((with_reducible refine Zr (f := 57) rfl ?_); refine Yg (some 17) rfl rfl Try.func57 (by kernel_rfl) rfl #[.agg #[.bool t1155, .slice Ao27 t1156.length co27, .slice Ao28 t1159.length co28]] rfl (by (try simp only [List.map_toArray, List.map_cons, List.map_nil]); first | done | rfl | (simp only [List.length_drop, List.length_take]; rfl)) ?_; (with_reducible refine (ratio_Text.calls k t1155 _ _ t1156 _ _ t1159 t1164 t1165 _ ?side1 ?side2 ?side3 ?side4 A2.out).mono ?_); (case side1 => refine (Kd.Zs (e := 47) (base := w.heap.size) (ok := fun k_ => ((some k_ ≠ (.slice Ao28 t1159.length co28 : Value).ownBlock ∧ some k_ ≠ (.slice Ao22 y1149.length co22 : Value).ownBlock) ∧ some k_ ≠ (.slice Ao23 y1152.length co23 : Value).ownBlock)) (n := t1156.length) (c := co27) ?_).2.2; exact (by (with_reducible repeat (first | apply Kd.Zf | apply Kd.Ze | apply Kd.Zj)); exact (Kd.Zv (Kd.Yh (p := ⟨gb1163, 2, none⟩) (Kd.Yh (p := ⟨gb1163, 1, none⟩) (Kd.Yh (p := ⟨gb1163, 0, none⟩) (Kd.Yq HO1158.out BK1163.out (by decide)) (fun _ hk => hk.2) (.bool t1155)) (fun _ hk => hk.2) (.slice Ao27 t1156.length co27)) (fun _ hk => hk.2) (.slice Ao28 t1159.length co28)) (fun _ h_ => h_.1)))); (case side2 => exact (Kd.Zs HO1158.out).2.1); (case side3 => refine (Kd.Zs (e := 47) (base := w.heap.size) (ok := fun k_ => ((some k_ ≠ (.slice Ao27 t1156.length co27 : Value).ownBlock ∧ some k_ ≠ (.slice Ao22 y1149.length co22 : Value).ownBlock) ∧ some k_ ≠ (.slice Ao23 y1152.length co23 : Value).ownBlock)) (n := t1159.length) (c := co28) ?_).2.2; exact (by (with_reducible repeat (first | apply Kd.Zf | apply Kd.Ze | apply Kd.Zj)); exact (Kd.Zv (Kd.Yh (p := ⟨gb1163, 2, none⟩) (Kd.Yh (p := ⟨gb1163, 1, none⟩) (Kd.Yh (p := ⟨gb1163, 0, none⟩) (Kd.Yq HO1161.out BK1163.out (by decide)) (fun _ hk => hk.2) (.bool t1155)) (fun _ hk => hk.2) (.slice Ao27 t1156.length co27)) (fun _ hk => hk.2) (.slice Ao28 t1159.length co28)) (fun _ h_ => h_.1)))); (case side4 => exact (Kd.Zs HO1161.out).2.1); rintro e w29 ⟨rfl, hb⟩; refine ⟨_, rfl, ?_⟩; have n0_ := Yt.mk (Kd.Yd (by (with_reducible repeat (first | apply Kd.Zf | apply Kd.Ze | apply Kd.Zj)); exact (Kd.Zv (Kd.Yh (p := ⟨gb1163, 2, none⟩) (Kd.Yh (p := ⟨gb1163, 1, none⟩) (Kd.Yh (p := ⟨gb1163, 0, none⟩) (Kd.Yq HO1151.out BK1163.out (by decide)) (fun _ hk => hk.2) (.bool t1155)) (fun _ hk => hk.2) (.slice Ao27 t1156.length co27)) (fun _ hk => hk.2) (.slice Ao28 t1159.length co28)) (fun _ h_ => h_.1))) hb); have n1_ := Yt.mk (Kd.Yd (by (with_reducible repeat (first | apply Kd.Zf | apply Kd.Ze | apply Kd.Zj)); exact (Kd.Zv (Kd.Yh (p := ⟨gb1163, 2, none⟩) (Kd.Yh (p := ⟨gb1163, 1, none⟩) (Kd.Yh (p := ⟨gb1163, 0, none⟩) (Kd.Yq HO1154.out BK1163.out (by decide)) (fun _ hk => hk.2) (.bool t1155)) (fun _ hk => hk.2) (.slice Ao27 t1156.length co27)) (fun _ hk => hk.2) (.slice Ao28 t1159.length co28)) (fun _ h_ => h_.1))) hb); have n2_ := Yt.mk (Kd.Yd (by (with_reducible repeat (first | apply Kd.Zf | apply Kd.Ze | apply Kd.Zj)); exact (Kd.Zv (Kd.Yh (p := ⟨gb1163, 2, none⟩) (Kd.Yh (p := ⟨gb1163, 1, none⟩) (Kd.Yh (p := ⟨gb1163, 0, none⟩) (Kd.Yq HO1158.out BK1163.out (by decide)) (fun _ hk => hk.2) (.bool t1155)) (fun _ hk => hk.2) (.slice Ao27 t1156.length co27)) (fun _ hk => hk.2) (.slice Ao28 t1159.length co28)) (fun _ h_ => h_.1))) hb); have n3_ := Yt.mk (Kd.Yd (by (with_reducible repeat (first | apply Kd.Zf | apply Kd.Ze | apply Kd.Zj)); exact (Kd.Zv (Kd.Yh (p := ⟨gb1163, 2, none⟩) (Kd.Yh (p := ⟨gb1163, 1, none⟩) (Kd.Yh (p := ⟨gb1163, 0, none⟩) (Kd.Yq HO1161.out BK1163.out (by decide)) (fun _ hk => hk.2) (.bool t1155)) (fun _ hk => hk.2) (.slice Ao27 t1156.length co27)) (fun _ hk => hk.2) (.slice Ao28 t1159.length co28)) (fun _ h_ => h_.1))) hb); have n4_ := Yt.mk (Zq (g := gb1163) (o := .cells #[.bool t1155, .slice Ao27 t1156.length co27, .slice Ao28 t1159.length co28] 50 (0, 0)) (by (with_reducible repeat (first | refine Zg ?_ _ | refine Zi ?_ | refine Zh ?_ _)); refine Ym (cs := #[.bool t1155, .slice Ao27 t1156.length co27, .slice none 0 0]) ?_ 2 _ rfl; (with_reducible repeat (first | refine Zg ?_ _ | refine Zi ?_ | refine Zh ?_ _)); refine Ym (cs := #[.bool t1155, .slice none 0 0, .slice none 0 0]) ?_ 1 _ rfl; (with_reducible repeat (first | refine Zg ?_ _ | refine Zi ?_ | refine Zh ?_ _)); refine Ym (cs := #[.bool false, .slice none 0 0, .slice none 0 0]) ?_ 0 _ rfl; (with_reducible repeat (first | refine Zg ?_ _ | refine Zi ?_ | refine Zh ?_ _)); exact BK1163.out) hb); have n5_ := Yt.mk (Zm (by repeat (first | (with_reducible first | exact HB.out | apply Zb | apply Za | apply Zc | refine Zd ?_ GE1163.out) | exact HB.out)) hb); clear HO1151; clear HO1154; clear HO1158; clear HO1161; clear BK1163; clear HB; have HO1151 := n0_; have HO1154 := n1_; have HO1158 := n2_; have HO1161 := n3_; have BK1163 := n4_; have HB := n5_; clear n0_ n1_ n2_ n3_ n4_ n5_; (try clear hb); (try clear hb2); (try clear hk); (try clear hi)) | ((with_reducible refine Zr (f := 59) rfl ?_); refine Yg (some 21) rfl rfl Try.func59 (by kernel_rfl) rfl #[.string (⟨#[43, 48, 54, 47, 52]⟩ : ByteArray)] rfl (by (try simp only [List.map_toArray, List.map_cons, List.map_nil]); first | done | rfl | (simp only [List.length_drop, List.length_take]; rfl)) ?_; (with_reducible refine (ratio_Read.calls k (⟨#[43, 48, 54, 47, 52]⟩ : ByteArray) t1166 t1167 t1170 t1173 _ A3.out).mono ?_); rintro e w30 ⟨v1168, v1171, rfl, ho0, ho1, hb⟩; refine ⟨_, rfl, ?_⟩; have n0_ := Yt.mk (Kd.Zv (Kd.Yl (Kd.Yl (Kd.R_old (by (with_reducible repeat (first | apply Kd.Zf | apply Kd.Ze | apply Kd.Zj)); exact HO1151.out) hb) (Kd.Zw ho0)) (Kd.Zw ho1)) (fun _ h_ => h_.1)); have n1_ := Yt.mk (Kd.Zv (Kd.Yl (Kd.Yl (Kd.R_old (by (with_reducible repeat (first | apply Kd.Zf | apply Kd.Ze | apply Kd.Zj)); exact HO1154.out) hb) (Kd.Zw ho0)) (Kd.Zw ho1)) (fun _ h_ => h_.1)); have n2_ := Yt.mk (Kd.Zv (Kd.Yl (Kd.Yl (Kd.R_old (by (with_reducible repeat (first | apply Kd.Zf | apply Kd.Ze | apply Kd.Zj)); exact HO1158.out) hb) (Kd.Zw ho0)) (Kd.Zw ho1)) (fun _ h_ => h_.1)); have n3_ := Yt.mk (Kd.Zv (Kd.Yl (Kd.Yl (Kd.R_old (by (with_reducible repeat (first | apply Kd.Zf | apply Kd.Ze | apply Kd.Zj)); exact HO1161.out) hb) (Kd.Zw ho0)) (Kd.Zw ho1)) (fun _ h_ => h_.1)); have n4_ := Yt.mk (Kd.Yb (Kd.Ya (Kd.Ya (Kd.Ya (Kd.Ya ho0 (Kd.R_lt (by (with_reducible repeat (first | apply Kd.Zf | apply Kd.Ze | apply Kd.Zj)); exact HO1151.out))) (Kd.R_lt (by (with_reducible repeat (first | apply Kd.Zf | apply Kd.Ze | apply Kd.Zj)); exact HO1154.out))) (Kd.R_lt (by (with_reducible repeat (first | apply Kd.Zf | apply Kd.Ze | apply Kd.Zj)); exact HO1158.out))) (Kd.R_lt (by (with_reducible repeat (first | apply Kd.Zf | apply Kd.Ze | apply Kd.Zj)); exact HO1161.out))) (Zk (by repeat (first | (with_reducible first | exact HB.out | apply Zb | apply Za | apply Zc | refine Zd ?_ GE1163.out) | exact HB.out)))); have n5_ := Yt.mk (Kd.Yb (Kd.Ya (Kd.Ya (Kd.Ya (Kd.Ya ho1 (Kd.R_lt (by (with_reducible repeat (first | apply Kd.Zf | apply Kd.Ze | apply Kd.Zj)); exact HO1151.out))) (Kd.R_lt (by (with_reducible repeat (first | apply Kd.Zf | apply Kd.Ze | apply Kd.Zj)); exact HO1154.out))) (Kd.R_lt (by (with_reducible repeat (first | apply Kd.Zf | apply Kd.Ze | apply Kd.Zj)); exact HO1158.out))) (Kd.R_lt (by (with_reducible repeat (first | apply Kd.Zf | apply Kd.Ze | apply Kd.Zj)); exact HO1161.out))) (Zk (by repeat (first | (with_reducible first | exact HB.out | apply Zb | apply Za | apply Zc | refine Zd ?_ GE1163.out) | exact HB.out)))); have n6_ := Yt.mk (Zq (g := gb1163) (o := .cells #[.bool t1155, .slice Ao27 t1156.length co27, .slice Ao28 t1159.length co28] 50 (0, 0)) (by (with_reducible repeat (first | refine Zg ?_ _ | refine Zi ?_ | refine Zh ?_ _)); exact BK1163.out) hb); have n7_ := Yt.mk (Zm (by repeat (first | (with_reducible first | exact HB.out | apply Zb | apply Za | apply Zc | refine Zd ?_ GE1163.out) | exact HB.out)) hb); clear HO1151; clear HO1154; clear HO1158; clear HO1161; clear BK1163; clear HB; have HO1151 := n0_; have HO1154 := n1_; have HO1158 := n2_; have HO1161 := n3_; have HO1169 := n4_; have HO1172 := n5_; have BK1163 := n6_; have HB := n7_; clear n0_ n1_ n2_ n3_ n4_ n5_ n6_ n7_; (try clear hb); (try clear hb2); (try clear hk); (try clear hi); (try clear ho0); (try clear ho1)) | ((with_reducible refine Yk (N := 5) rfl ?_); refine Yo ?hg (N := 5) ?hd (cs := #[.bool false, .slice none 0 0, .slice none 0 0]) (t := 50) ?hr ?_; (case hd => rfl); (case hg => rfl); (case hr => first | (go_simp; done) | (go_simp; rfl)); intro gb1174 hg w31 hbox hb; have n0_ := Yt.mk (Kd.Yd (by (with_reducible repeat (first | apply Kd.Zf | apply Kd.Ze | apply Kd.Zj)); exact HO1151.out) hb); have n1_ := Yt.mk (Kd.Yd (by (with_reducible repeat (first | apply Kd.Zf | apply Kd.Ze | apply Kd.Zj)); exact HO1154.out) hb); have n2_ := Yt.mk (Kd.Yd (by (with_reducible repeat (first | apply Kd.Zf | apply Kd.Ze | apply Kd.Zj)); exact HO1158.out) hb); have n3_ := Yt.mk (Kd.Yd (by (with_reducible repeat (first | apply Kd.Zf | apply Kd.Ze | apply Kd.Zj)); exact HO1161.out) hb); have n4_ := Yt.mk (Kd.Yd (by (with_reducible repeat (first | apply Kd.Zf | apply Kd.Ze | apply Kd.Zj)); exact HO1169.out) hb); have n5_ := Yt.mk (Kd.Yd (by (with_reducible repeat (first | apply Kd.Zf | apply Kd.Ze | apply Kd.Zj)); exact HO1172.out) hb); have n6_ := Yt.mk (Zq (g := gb1163) (o := .cells #[.bool t1155, .slice Ao27 t1156.length co27, .slice Ao28 t1159.length co28] 50 (0, 0)) (by (with_reducible repeat (first | refine Zg ?_ _ | refine Zi ?_ | refine Zh ?_ _)); exact BK1163.out) hb); have n7_ := Yt.mk (Zm (by repeat (first | (with_reducible first | exact HB.out | apply Zb | apply Za | apply Zc | refine Zd ?_ GE1163.out) | exact HB.out)) hb); have n8_ := Yt.mk (hbox); have n9_ := Yt.mk ((by rw [hg]; exact (Zk (by repeat (first | (with_reducible first | exact HB.out | apply Zb | apply Za | apply Zc | refine Zd ?_ GE1163.out) | exact HB.out))) : w.heap.size ≤ gb1174)); have n10_ := Yt.mk ((by rw [hg]; exact (Zk (by repeat (first | (with_reducible first | exact HB.out | apply Zb | apply Za | apply Zc | refine Zd ?_ GE1163.out) | exact HB.out))) : w.heap.size ≤ gb1174)); have n11_ := Yt.mk ((by rw [hg]; exact Nat.ne_of_lt (blk_lt (g := gb1163) (o := .cells #[.bool t1155, .slice Ao27 t1156.length co27, .slice Ao28 t1159.length co28] 50 (0, 0)) (by (with_reducible repeat (first | refine Zg ?_ _ | refine Zi ?_ | refine Zh ?_ _)); exact BK1163.out)) : gb1163 ≠ gb1174)); have n12_ := Yt.mk ((by rw [hg]; exact Nat.ne_of_gt (blk_lt (g := gb1163) (o := .cells #[.bool t1155, .slice Ao27 t1156.length co27, .slice Ao28 t1159.length co28] 50 (0, 0)) (by (with_reducible repeat (first | refine Zg ?_ _ | refine Zi ?_ | refine Zh ?_ _)); exact BK1163.out)) : gb1174 ≠ gb1163)); clear HO1151; clear HO1154; clear HO1158; clear HO1161; clear HO1169; clear HO1172; clear BK1163; clear HB; have HO1151 := n0_; have HO1154 := n1_; have HO1158 := n2_; have HO1161 := n3_; have HO1169 := n4_; have HO1172 := n5_; have BK1163 := n6_; have HB := n7_; have BK1174 := n8_; have GW1174 := n9_; have GE1174 := n10_; have NB1163_1174 := n11_; have NB1174_1163 := n12_; clear n0_ n1_ n2_ n3_ n4_ n5_ n6_ n7_ n8_ n9_ n10_ n11_ n12_; clear hb hbox hg; have hnb32 := NB1174_1163.out; have hnc32 := NB1163_1174.out; have hcz33_0 : w31.cell? ⟨gb1174, 0, none⟩ = some (.bool false) := (Zl BK1174.out 0).trans rfl; have hcz33_1 : w31.cell? ⟨gb1174, 1, none⟩ = some (.slice none 0 0) := (Zl BK1174.out 1).trans rfl; have hcz33_2 : w31.cell? ⟨gb1174, 2, none⟩ = some (.slice none 0 0) := (Zl BK1174.out 2).trans rfl; have hfz33_0 := Zn BK1174.out 0; have hfz33_1 := Zn BK1174.out 1; have hfz33_2 := Zn BK1174.out 2; obtain ⟨Ao34, co34, eo34⟩ := Kd.Zx HO1169.out; subst eo34; obtain ⟨Ao35, co35, eo35⟩ := Kd.Zx HO1172.out; subst eo35) | ((with_reducible refine gate_store (t := 50) (p := 5) rfl ?_); refine store_event (t := 50) (p := 5) (v := ?vo_w36) (w1 := (((w31.setCell ⟨gb1174, 0, none⟩ (.bool t1166)).setCell ⟨gb1174, 1, none⟩ (.slice Ao34 t1167.length co34)).setCell ⟨gb1174, 2, none⟩ (.slice Ao35 t1170.length co35))) ?hg ?ho ?hn ?hr ?_; (case ho => rfl); (case hg => rfl); (case hn => rfl); (case hr => first | (go_simp; done) | (go_simp; rfl)); intro w36 hw; have n0_ : Yt (Kd.R (Kd.int .u32) 47 w36 w.heap.size (fun k_ => some k_ ≠ (.slice Ao23 y1152.length co23 : Value).ownBlock ∧ some k_ ≠ (.slice Ao27 t1156.length co27 : Value).ownBlock ∧ some k_ ≠ (.slice Ao28 t1159.length co28 : Value).ownBlock ∧ some k_ ≠ (.slice Ao34 t1167.length co34 : Value).ownBlock ∧ some k_ ≠ (.slice Ao35 t1170.length co35 : Value).ownBlock) (.slice Ao22 y1149.length co22) y1149) := ⟨(by rw [hw]; exact (by (with_reducible repeat (first | apply Kd.Zf | apply Kd.Ze | apply Kd.Zj)); exact Kd.Zv (Kd.Yh (p := ⟨gb1174, 2, none⟩) (Kd.Yh (p := ⟨gb1174, 1, none⟩) (Kd.Yh (p := ⟨gb1174, 0, none⟩) (Kd.Yq HO1151.out BK1174.out (by decide)) (fun _ hk => hk.2) (.bool t1166)) (fun _ hk => hk.2) (.slice Ao34 t1167.length co34)) (fun _ hk => hk.2) (.slice Ao35 t1170.length co35)) (fun _ hk => ⟨hk.1.1.1.1.1.2, ⟨hk.1.1.1.1.2, ⟨hk.1.1.1.2, ⟨hk.1.1.2, hk.1.2⟩⟩⟩⟩)))⟩; have n1_ : Yt (Kd.R (Kd.int .u32) 47 w36 w.heap.size (fun k_ => some k_ ≠ (.slice Ao22 y1149.length co22 : Value).ownBlock ∧ some k_ ≠ (.slice Ao27 t1156.length co27 : Value).ownBlock ∧ some k_ ≠ (.slice Ao28 t1159.length co28 : Value).ownBlock ∧ some k_ ≠ (.slice Ao34 t1167.length co34 : Value).ownBlock ∧ some k_ ≠ (.slice Ao35 t1170.length co35 : Value).ownBlock) (.slice Ao23 y1152.length co23) y1152) := ⟨(by rw [hw]; exact (by (with_reducible repeat (first | apply Kd.Zf | apply Kd.Ze | apply Kd.Zj)); exact Kd.Zv (Kd.Yh (p := ⟨gb1174, 2, none⟩) (Kd.Yh (p := ⟨gb1174, 1, none⟩) (Kd.Yh (p := ⟨gb1174, 0, none⟩) (Kd.Yq HO1154.out BK1174.out (by decide)) (fun _ hk => hk.2) (.bool t1166)) (fun _ hk => hk.2) (.slice Ao34 t1167.length co34)) (fun _ hk => hk.2) (.slice Ao35 t1170.length co35)) (fun _ hk => ⟨hk.1.1.1.1.1.2, ⟨hk.1.1.1.1.2, ⟨hk.1.1.1.2, ⟨hk.1.1.2, hk.1.2⟩⟩⟩⟩)))⟩; have n2_ : Yt (Kd.R (Kd.int .u32) 47 w36 w.heap.size (fun k_ => some k_ ≠ (.slice Ao22 y1149.length co22 : Value).ownBlock ∧ some k_ ≠ (.slice Ao23 y1152.length co23 : Value).ownBlock ∧ some k_ ≠ (.slice Ao28 t1159.length co28 : Value).ownBlock ∧ some k_ ≠ (.slice Ao34 t1167.length co34 : Value).ownBlock ∧ some k_ ≠ (.slice Ao35 t1170.length co35 : Value).ownBlock) (.slice Ao27 t1156.length co27) t1156) := ⟨(by rw [hw]; exact (by (with_reducible repeat (first | apply Kd.Zf | apply Kd.Ze | apply Kd.Zj)); exact Kd.Zv (Kd.Yh (p := ⟨gb1174, 2, none⟩) (Kd.Yh (p := ⟨gb1174, 1, none⟩) (Kd.Yh (p := ⟨gb1174, 0, none⟩) (Kd.Yq HO1158.out BK1174.out (by decide)) (fun _ hk => hk.2) (.bool t1166)) (fun _ hk => hk.2) (.slice Ao34 t1167.length co34)) (fun _ hk => hk.2) (.slice Ao35 t1170.length co35)) (fun _ hk => ⟨hk.1.1.1.1.2, ⟨hk.1.1.1.2, ⟨hk.1.1.1.1.1, ⟨hk.1.1.2, hk.1.2⟩⟩⟩⟩)))⟩; have n3_ : Yt (Kd.R (Kd.int .u32) 47 w36 w.heap.size (fun k_ => some k_ ≠ (.slice Ao22 y1149.length co22 : Value).ownBlock ∧ some k_ ≠ (.slice Ao23 y1152.length co23 : Value).ownBlock ∧ some k_ ≠ (.slice Ao27 t1156.length co27 : Value).ownBlock ∧ some k_ ≠ (.slice Ao34 t1167.length co34 : Value).ownBlock ∧ some k_ ≠ (.slice Ao35 t1170.length co35 : Value).ownBlock) (.slice Ao28 t1159.length co28) t1159) := ⟨(by rw [hw]; exact (by (with_reducible repeat (first | apply Kd.Zf | apply Kd.Ze | apply Kd.Zj)); exact Kd.Zv (Kd.Yh (p := ⟨gb1174, 2, none⟩) (Kd.Yh (p := ⟨gb1174, 1, none⟩) (Kd.Yh (p := ⟨gb1174, 0, none⟩) (Kd.Yq HO1161.out BK1174.out (by decide)) (fun _ hk => hk.2) (.bool t1166)) (fun _ hk => hk.2) (.slice Ao34 t1167.length co34)) (fun _ hk => hk.2) (.slice Ao35 t1170.length co35)) (fun _ hk => ⟨hk.1.1.1.1.2, ⟨hk.1.1.1.2, ⟨hk.1.1.1.1.1, ⟨hk.1.1.2, hk.1.2⟩⟩⟩⟩)))⟩; have n4_ : Yt (Kd.R (Kd.int .u32) 47 w36 w.heap.size (fun k_ => some k_ ≠ (.slice Ao22 y1149.length co22 : Value).ownBlock ∧ some k_ ≠ (.slice Ao23 y1152.length co23 : Value).ownBlock ∧ some k_ ≠ (.slice Ao27 t1156.length co27 : Value).ownBlock ∧ some k_ ≠ (.slice Ao28 t1159.length co28 : Value).ownBlock ∧ some k_ ≠ (.slice Ao35 t1170.length co35 : Value).ownBlock) (.slice Ao34 t1167.length co34) t1167) := ⟨(by rw [hw]; exact (by (with_reducible repeat (first | apply Kd.Zf | apply Kd.Ze | apply Kd.Zj)); exact Kd.Zv (Kd.Yh (p := ⟨gb1174, 2, none⟩) (Kd.Yh (p := ⟨gb1174, 1, none⟩) (Kd.Yh (p := ⟨gb1174, 0, none⟩) (Kd.Yq HO1169.out BK1174.out (by decide)) (fun _ hk => hk.2) (.bool t1166)) (fun _ hk => hk.2) (.slice Ao34 t1167.length co34)) (fun _ hk => hk.2) (.slice Ao35 t1170.length co35)) (fun _ hk => ⟨hk.1.1.1.1.2, ⟨hk.1.1.1.2, ⟨hk.1.1.2, ⟨hk.1.2, hk.1.1.1.1.1⟩⟩⟩⟩)))⟩; have n5_ : Yt (Kd.R (Kd.int .u32) 47 w36 w.heap.size (fun k_ => some k_ ≠ (.slice Ao22 y1149.length co22 : Value).ownBlock ∧ some k_ ≠ (.slice Ao23 y1152.length co23 : Value).ownBlock ∧ some k_ ≠ (.slice Ao27 t1156.length co27 : Value).ownBlock ∧ some k_ ≠ (.slice Ao28 t1159.length co28 : Value).ownBlock ∧ some k_ ≠ (.slice Ao34 t1167.length co34 : Value).ownBlock) (.slice Ao35 t1170.length co35) t1170) := ⟨(by rw [hw]; exact (by (with_reducible repeat (first | apply Kd.Zf | apply Kd.Ze | apply Kd.Zj)); exact Kd.Zv (Kd.Yh (p := ⟨gb1174, 2, none⟩) (Kd.Yh (p := ⟨gb1174, 1, none⟩) (Kd.Yh (p := ⟨gb1174, 0, none⟩) (Kd.Yq HO1172.out BK1174.out (by decide)) (fun _ hk => hk.2) (.bool t1166)) (fun _ hk => hk.2) (.slice Ao34 t1167.length co34)) (fun _ hk => hk.2) (.slice Ao35 t1170.length co35)) (fun _ hk => ⟨hk.1.1.1.1.2, ⟨hk.1.1.1.2, ⟨hk.1.1.2, ⟨hk.1.2, hk.1.1.1.1.1⟩⟩⟩⟩)))⟩; have n6_ : Yt (w36.heap[gb1163]? = some (.cells #[.bool t1155, .slice Ao27 t1156.length co27, .slice Ao28 t1159.length co28] 50 (0, 0))) := ⟨(by rw [hw]; exact (by (with_reducible repeat (first | refine Zg ?_ _ | refine Zi ?_ | refine Zh ?_ _)); refine blk_far ?_ NB1163_1174.out _; (with_reducible repeat (first | refine Zg ?_ _ | refine Zi ?_ | refine Zh ?_ _)); refine blk_far ?_ NB1163_1174.out _; (with_reducible repeat (first | refine Zg ?_ _ | refine Zi ?_ | refine Zh ?_ _)); refine blk_far ?_ NB1163_1174.out _; (with_reducible repeat (first | refine Zg ?_ _ | refine Zi ?_ | refine Zh ?_ _)); exact BK1163.out))⟩; have n7_ : Yt (w36.heap[gb1174]? = some (.cells #[.bool t1166, .slice Ao34 t1167.length co34, .slice Ao35 t1170.length co35] 50 (0, 0))) := ⟨(by rw [hw]; exact (by (with_reducible repeat (first | refine Zg ?_ _ | refine Zi ?_ | refine Zh ?_ _)); refine Ym (cs := #[.bool t1166, .slice Ao34 t1167.length co34, .slice none 0 0]) ?_ 2 _ rfl; (with_reducible repeat (first | refine Zg ?_ _ | refine Zi ?_ | refine Zh ?_ _)); refine Ym (cs := #[.bool t1166, .slice none 0 0, .slice none 0 0]) ?_ 1 _ rfl; (with_reducible repeat (first | refine Zg ?_ _ | refine Zi ?_ | refine Zh ?_ _)); refine Ym (cs := #[.bool false, .slice none 0 0, .slice none 0 0]) ?_ 0 _ rfl; (with_reducible repeat (first | refine Zg ?_ _ | refine Zi ?_ | refine Zh ?_ _)); exact BK1174.out))⟩; have n8_ : Yt (Below w.heap.size w w36) := ⟨(by rw [hw]; exact (by repeat (first | (with_reducible first | exact HB.out | apply Zb | apply Za | apply Zc | refine Zd ?_ GE1163.out | refine Zd ?_ GE1174.out) | exact HB.out)))⟩; clear hw; clear HO1151; clear HO1154; clear HO1158; clear HO1161; clear HO1169; clear HO1172; clear BK1163; clear BK1174; clear HB; have HO1151 := n0_; have HO1154 := n1_; have HO1158 := n2_; have HO1161 := n3_; have HO1169 := n4_; have HO1172 := n5_; have BK1163 := n6_; have BK1174 := n7_; have HB := n8_; clear n0_ n1_ n2_ n3_ n4_ n5_ n6_ n7_ n8_; have hcz37_0 : w36.cell? ⟨gb1174, 0, none⟩ = some (.bool t1166) := (Zl BK1174.out 0).trans rfl; have hcz37_1 : w36.cell? ⟨gb1174, 1, none⟩ = some (.slice Ao34 t1167.length co34) := (Zl BK1174.out 1).trans rfl; have hcz37_2 : w36.cell? ⟨gb1174, 2, none⟩ = some (.slice Ao35 t1170.length co35) := (Zl BK1174.out 2).trans rfl; have hfz37_0 := Zn BK1174.out 0; have hfz37_1 := Zn BK1174.out 1; have hfz37_2 := Zn BK1174.out 2; have hcz38_0 : w36.cell? ⟨gb1163, 0, none⟩ = some (.bool t1155) := (Zl BK1163.out 0).trans rfl; have hcz38_1 : w36.cell? ⟨gb1163, 1, none⟩ = some (.slice Ao27 t1156.length co27) := (Zl BK1163.out 1).trans rfl; have hcz38_2 : w36.cell? ⟨gb1163, 2, none⟩ = some (.slice Ao28 t1159.length co28) := (Zl BK1163.out 2).trans rfl; have hfz38_0 := Zn BK1163.out 0; have hfz38_1 := Zn BK1163.out 1; have hfz38_2 := Zn BK1163.out 2) | ((with_reducible refine Zr (f := 70) rfl ?_); refine Yg (some 27) rfl rfl Try.func70 (by kernel_rfl) rfl #[.agg #[.bool t1166, .slice Ao34 t1167.length co34, .slice Ao35 t1170.length co35], .agg #[.bool t1155, .slice Ao27 t1156.length co27, .slice Ao28 t1159.length co28]] rfl (by (try simp only [List.map_toArray, List.map_cons, List.map_nil]); first | done | rfl | (simp only [List.length_drop, List.length_take]; rfl)) ?_; (with_reducible refine (ratio_Add.calls k t1166 (fun k_ => some k_ = (.slice Ao34 t1167.length co34 : Value).ownBlock) _ _ t1167 (fun k_ => some k_ = (.slice Ao35 t1170.length co35 : Value).ownBlock) _ _ t1170 t1155 (fun k_ => some k_ = (.slice Ao27 t1156.length co27 : Value).ownBlock) _ _ t1156 (fun k_ => some k_ = (.slice Ao28 t1159.length co28 : Value).ownBlock) _ _ t1159 t1175 t1176 t1179 t1182 _ ?side1 ?side2 ?side3 ?side4 A4.out).mono ?_); (case side1 => exact Kd.R_V (Kd.R_tight rfl (Kd.Yq (Kd.Yq (HO1169.out) BK1163.out (by decide)) BK1174.out (by decide)))); (case side2 => exact Kd.R_V (Kd.R_tight rfl (Kd.Yq (Kd.Yq (HO1172.out) BK1163.out (by decide)) BK1174.out (by decide)))); (case side3 => exact Kd.R_V (Kd.R_tight rfl (Kd.Yq (Kd.Yq (HO1158.out) BK1163.out (by decide)) BK1174.out (by decide)))); (case side4 => exact Kd.R_V (Kd.R_tight rfl (Kd.Yq (Kd.Yq (HO1161.out) BK1163.out (by decide)) BK1174.out (by decide)))); rintro e w39 ⟨v1177, v1180, rfl, ho0, ho1, hb⟩; refine ⟨_, rfl, ?_⟩; have n0_ := Yt.mk (Kd.Zv (Kd.Yl (Kd.Yl (Kd.R_old (by (with_reducible repeat (first | apply Kd.Zf | apply Kd.Ze | apply Kd.Zj)); exact HO1151.out) hb) (Kd.Zw ho0)) (Kd.Zw ho1)) (fun _ h_ => h_.1)); have n1_ := Yt.mk (Kd.Zv (Kd.Yl (Kd.Yl (Kd.R_old (by (with_reducible repeat (first | apply Kd.Zf | apply Kd.Ze | apply Kd.Zj)); exact HO1154.out) hb) (Kd.Zw ho0)) (Kd.Zw ho1)) (fun _ h_ => h_.1)); have n2_ := Yt.mk (Kd.Zv (Kd.Yl (Kd.Yl (Kd.R_old (by (with_reducible repeat (first | apply Kd.Zf | apply Kd.Ze | apply Kd.Zj)); exact HO1158.out) hb) (Kd.Zw ho0)) (Kd.Zw ho1)) (fun _ h_ => h_.1)); have n3_ := Yt.mk (Kd.Zv (Kd.Yl (Kd.Yl (Kd.R_old (by (with_reducible repeat (first | apply Kd.Zf | apply Kd.Ze | apply Kd.Zj)); exact HO1161.out) hb) (Kd.Zw ho0)) (Kd.Zw ho1)) (fun _ h_ => h_.1)); have n4_ := Yt.mk (Kd.Zv (Kd.Yl (Kd.Yl (Kd.R_old (by (with_reducible repeat (first | apply Kd.Zf | apply Kd.Ze | apply Kd.Zj)); exact HO1169.out) hb) (Kd.Zw ho0)) (Kd.Zw ho1)) (fun _ h_ => h_.1)); have n5_ := Yt.mk (Kd.Zv (Kd.Yl (Kd.Yl (Kd.R_old (by (with_reducible repeat (first | apply Kd.Zf | apply Kd.Ze | apply Kd.Zj)); exact HO1172.out) hb) (Kd.Zw ho0)) (Kd.Zw ho1)) (fun _ h_ => h_.1)); have n6_ := Yt.mk (Kd.Yb (Kd.Ya (Kd.Ya (Kd.Ya (Kd.Ya (Kd.Ya (Kd.Ya (Kd.Zv (ok' := fun k_ => some k_ ≠ (v1180 : Value).ownBlock) ho0 (fun _ hk_ => hk_.2)) (Kd.R_lt (by (with_reducible repeat (first | apply Kd.Zf | apply Kd.Ze | apply Kd.Zj)); exact HO1151.out))) (Kd.R_lt (by (with_reducible repeat (first | apply Kd.Zf | apply Kd.Ze | apply Kd.Zj)); exact HO1154.out))) (Kd.R_lt (by (with_reducible repeat (first | apply Kd.Zf | apply Kd.Ze | apply Kd.Zj)); exact HO1158.out))) (Kd.R_lt (by (with_reducible repeat (first | apply Kd.Zf | apply Kd.Ze | apply Kd.Zj)); exact HO1161.out))) (Kd.R_lt (by (with_reducible repeat (first | apply Kd.Zf | apply Kd.Ze | apply Kd.Zj)); exact HO1169.out))) (Kd.R_lt (by (with_reducible repeat (first | apply Kd.Zf | apply Kd.Ze | apply Kd.Zj)); exact HO1172.out))) (Zk (by repeat (first | (with_reducible first | exact HB.out | apply Zb | apply Za | apply Zc | refine Zd ?_ GE1163.out | refine Zd ?_ GE1174.out) | exact HB.out)))); have n7_ := Yt.mk (Kd.Yb (Kd.Ya (Kd.Ya (Kd.Ya (Kd.Ya (Kd.Ya (Kd.Ya (Kd.Zv (ok' := fun k_ => some k_ ≠ (v1177 : Value).ownBlock) ho1 (fun _ hk_ => hk_.2)) (Kd.R_lt (by (with_reducible repeat (first | apply Kd.Zf | apply Kd.Ze | apply Kd.Zj)); exact HO1151.out))) (Kd.R_lt (by (with_reducible repeat (first | apply Kd.Zf | apply Kd.Ze | apply Kd.Zj)); exact HO1154.out))) (Kd.R_lt (by (with_reducible repeat (first | apply Kd.Zf | apply Kd.Ze | apply Kd.Zj)); exact HO1158.out))) (Kd.R_lt (by (with_reducible repeat (first | apply Kd.Zf | apply Kd.Ze | apply Kd.Zj)); exact HO1161.out))) (Kd.R_lt (by (with_reducible repeat (first | apply Kd.Zf | apply Kd.Ze | apply Kd.Zj)); exact HO1169.out))) (Kd.R_lt (by (with_reducible repeat (first | apply Kd.Zf | apply Kd.Ze | apply Kd.Zj)); exact HO1172.out))) (Zk (by repeat (first | (with_reducible first | exact HB.out | apply Zb | apply Za | apply Zc | refine Zd ?_ GE1163.out | refine Zd ?_ GE1174.out) | exact HB.out)))); have n8_ := Yt.mk (Zq (g := gb1163) (o := .cells #[.bool t1155, .slice Ao27 t1156.length co27, .slice Ao28 t1159.length co28] 50 (0, 0)) (by (with_reducible repeat (first | refine Zg ?_ _ | refine Zi ?_ | refine Zh ?_ _)); exact BK1163.out) hb); have n9_ := Yt.mk (Zq (g := gb1174) (o := .cells #[.bool t1166, .slice Ao34 t1167.length co34, .slice Ao35 t1170.length co35] 50 (0, 0)) (by (with_reducible repeat (first | refine Zg ?_ _ | refine Zi ?_ | refine Zh ?_ _)); exact BK1174.out) hb); have n10_ := Yt.mk (Zm (by repeat (first | (with_reducible first | exact HB.out | apply Zb | apply Za | apply Zc | refine Zd ?_ GE1163.out | refine Zd ?_ GE1174.out) | exact HB.out)) hb); clear HO1151; clear HO1154; clear HO1158; clear HO1161; clear HO1169; clear HO1172; clear BK1163; clear BK1174; clear HB; have HO1151 := n0_; have HO1154 := n1_; have HO1158 := n2_; have HO1161 := n3_; have HO1169 := n4_; have HO1172 := n5_; have HO1178 := n6_; have HO1181 := n7_; have BK1163 := n8_; have BK1174 := n9_; have HB := n10_; clear n0_ n1_ n2_ n3_ n4_ n5_ n6_ n7_ n8_ n9_ n10_; (try clear hb); (try clear hb2); (try clear hk); (try clear hi); (try clear ho0); (try clear ho1)) | ((with_reducible refine Yk (N := 7) rfl ?_); refine Yo ?hg (N := 7) ?hd (cs := #[.bool false, .slice none 0 0, .slice none 0 0]) (t := 50) ?hr ?_; (case hd => rfl); (case hg => rfl); (case hr => first | (go_simp; done) | (go_simp; rfl)); intro gb1183 hg w40 hbox hb; have n0_ := Yt.mk (Kd.Yd (by (with_reducible repeat (first | apply Kd.Zf | apply Kd.Ze | apply Kd.Zj)); exact HO1151.out) hb); have n1_ := Yt.mk (Kd.Yd (by (with_reducible repeat (first | apply Kd.Zf | apply Kd.Ze | apply Kd.Zj)); exact HO1154.out) hb); have n2_ := Yt.mk (Kd.Yd (by (with_reducible repeat (first | apply Kd.Zf | apply Kd.Ze | apply Kd.Zj)); exact HO1158.out) hb); have n3_ := Yt.mk (Kd.Yd (by (with_reducible repeat (first | apply Kd.Zf | apply Kd.Ze | apply Kd.Zj)); exact HO1161.out) hb); have n4_ := Yt.mk (Kd.Yd (by (with_reducible repeat (first | apply Kd.Zf | apply Kd.Ze | apply Kd.Zj)); exact HO1169.out) hb); have n5_ := Yt.mk (Kd.Yd (by (with_reducible repeat (first | apply Kd.Zf | apply Kd.Ze | apply Kd.Zj)); exact HO1172.out) hb); have n6_ := Yt.mk (Kd.Yd (by (with_reducible repeat (first | apply Kd.Zf | apply Kd.Ze | apply Kd.Zj)); exact HO1178.out) hb); have n7_ := Yt.mk (Kd.Yd (by (with_reducible repeat (first | apply Kd.Zf | apply Kd.Ze | apply Kd.Zj)); exact HO1181.out) hb); have n8_ := Yt.mk (Zq (g := gb1163) (o := .cells #[.bool t1155, .slice Ao27 t1156.length co27, .slice Ao28 t1159.length co28] 50 (0, 0)) (by (with_reducible repeat (first | refine Zg ?_ _ | refine Zi ?_ | refine Zh ?_ _)); exact BK1163.out) hb); have n9_ := Yt.mk (Zq (g := gb1174) (o := .cells #[.bool t1166, .slice Ao34 t1167.length co34, .slice Ao35 t1170.length co35] 50 (0, 0)) (by (with_reducible repeat (first | refine Zg ?_ _ | refine Zi ?_ | refine Zh ?_ _)); exact BK1174.out) hb); have n10_ := Yt.mk (Zm (by repeat (first | (with_reducible first | exact HB.out | apply Zb | apply Za | apply Zc | refine Zd ?_ GE1163.out | refine Zd ?_ GE1174.out) | exact HB.out)) hb); have n11_ := Yt.mk (hbox); have n12_ := Yt.mk ((by rw [hg]; exact (Zk (by repeat (first | (with_reducible first | exact HB.out | apply Zb | apply Za | apply Zc | refine Zd ?_ GE1163.out | refine Zd ?_ GE1174.out) | exact HB.out))) : w.heap.size ≤ gb1183)); have n13_ := Yt.mk ((by rw [hg]; exact (Zk (by repeat (first | (with_reducible first | exact HB.out | apply Zb | apply Za | apply Zc | refine Zd ?_ GE1163.out | refine Zd ?_ GE1174.out) | exact HB.out))) : w.heap.size ≤ gb1183)); have n14_ := Yt.mk ((by rw [hg]; exact Nat.ne_of_lt (blk_lt (g := gb1163) (o := .cells #[.bool t1155, .slice Ao27 t1156.length co27, .slice Ao28 t1159.length co28] 50 (0, 0)) (by (with_reducible repeat (first | refine Zg ?_ _ | refine Zi ?_ | refine Zh ?_ _)); exact BK1163.out)) : gb1163 ≠ gb1183)); have n15_ := Yt.mk ((by rw [hg]; exact Nat.ne_of_gt (blk_lt (g := gb1163) (o := .cells #[.bool t1155, .slice Ao27 t1156.length co27, .slice Ao28 t1159.length co28] 50 (0, 0)) (by (with_reducible repeat (first | refine Zg ?_ _ | refine Zi ?_ | refine Zh ?_ _)); exact BK1163.out)) : gb1183 ≠ gb1163)); have n16_ := Yt.mk ((by rw [hg]; exact Nat.ne_of_lt (blk_lt (g := gb1174) (o := .cells #[.bool t1166, .slice Ao34 t1167.length co34, .slice Ao35 t1170.length co35] 50 (0, 0)) (by (with_reducible repeat (first | refine Zg ?_ _ | refine Zi ?_ | refine Zh ?_ _)); exact BK1174.out)) : gb1174 ≠ gb1183)); have n17_ := Yt.mk ((by rw [hg]; exact Nat.ne_of_gt (blk_lt (g := gb1174) (o := .cells #[.bool t1166, .slice Ao34 t1167.length co34, .slice Ao35 t1170.length co35] 50 (0, 0)) (by (with_reducible repeat (first | refine Zg ?_ _ | refine Zi ?_ | refine Zh ?_ _)); exact BK1174.out)) : gb1183 ≠ gb1174)); clear HO1151; clear HO1154; clear HO1158; clear HO1161; clear HO1169; clear HO1172; clear HO1178; clear HO1181; clear BK1163; clear BK1174; clear HB; have HO1151 := n0_; have HO1154 := n1_; have HO1158 := n2_; have HO1161 := n3_; have HO1169 := n4_; have HO1172 := n5_; have HO1178 := n6_; have HO1181 := n7_; have BK1163 := n8_; have BK1174 := n9_; have HB := n10_; have BK1183 := n11_; have GW1183 := n12_; have GE1183 := n13_; have NB1163_1183 := n14_; have NB1183_1163 := n15_; have NB1174_1183 := n16_; have NB1183_1174 := n17_; clear n0_ n1_ n2_ n3_ n4_ n5_ n6_ n7_ n8_ n9_ n10_ n11_ n12_ n13_ n14_ n15_ n16_ n17_; clear hb hbox hg; have hnb41 := NB1183_1163.out; have hnc41 := NB1163_1183.out; have hnb42 := NB1183_1174.out; have hnc42 := NB1174_1183.out; have hcz43_0 : w40.cell? ⟨gb1183, 0, none⟩ = some (.bool false) := (Zl BK1183.out 0).trans rfl; have hcz43_1 : w40.cell? ⟨gb1183, 1, none⟩ = some (.slice none 0 0) := (Zl BK1183.out 1).trans rfl; have hcz43_2 : w40.cell? ⟨gb1183, 2, none⟩ = some (.slice none 0 0) := (Zl BK1183.out 2).trans rfl; have hfz43_0 := Zn BK1183.out 0; have hfz43_1 := Zn BK1183.out 1; have hfz43_2 := Zn BK1183.out 2; obtain ⟨Ao44, co44, eo44⟩ := Kd.Zx HO1178.out; subst eo44; obtain ⟨Ao45, co45, eo45⟩ := Kd.Zx HO1181.out; subst eo45))
         have n0_ : Yt (Kd.R (Kd.int .u32) 47 (((w40.setCell ⟨gb1183, 0, none⟩ (.bool t1175)).setCell ⟨gb1183, 1, none⟩ (.slice Ao44 t1176.length co44)).setCell ⟨gb1183, 2, none⟩ (.slice Ao45 t1179.length co45)) w.heap.size (fun k_ => some k_ ≠ (.slice Ao23 y1152.length co23 : Value).ownBlock ∧ some k_ ≠ (.slice Ao27 t1156.length co27 : Value).ownBlock ∧ some k_ ≠ (.slice Ao28 t1159.length co28 : Value).ownBlock ∧ some k_ ≠ (.slice Ao34 t1167.length co34 : Value).ownBlock ∧ some k_ ≠ (.slice Ao35 t1170.length co35 : Value).ownBlock ∧ some k_ ≠ (.slice Ao44 t1176.length co44 : Value).ownBlock ∧ some k_ ≠ (.slice Ao45 t1179.length co45 : Value).ownBlock) (.slice Ao22 y1149.length co22) y1149) := ⟨by (with_reducible repeat (first | apply Kd.Zf | apply Kd.Ze | apply Kd.Zj)); exact Kd.Zv (Kd.Yh (p := ⟨gb1183, 2, none⟩) (Kd.Yh (p := ⟨gb1183, 1, none⟩) (Kd.Yh (p := ⟨gb1183, 0, none⟩) (Kd.Yq HO1151.out BK1183.out (by decide)) (fun _ hk => hk.2) (.bool t1175)) (fun _ hk => hk.2) (.slice Ao44 t1176.length co44)) (fun _ hk => hk.2) (.slice Ao45 t1179.length co45)) (fun _ hk => ⟨hk.1.1.1.1, ⟨hk.1.1.1.2.1, ⟨hk.1.1.1.2.2.1, ⟨hk.1.1.1.2.2.2.1, ⟨hk.1.1.1.2.2.2.2, ⟨hk.1.1.2, hk.1.2⟩⟩⟩⟩⟩⟩)⟩
         have n1_ : Yt (Kd.R (Kd.int .u32) 47 (((w40.setCell ⟨gb1183, 0, none⟩ (.bool t1175)).setCell ⟨gb1183, 1, none⟩ (.slice Ao44 t1176.length co44)).setCell ⟨gb1183, 2, none⟩ (.slice Ao45 t1179.length co45)) w.heap.size (fun k_ => some k_ ≠ (.slice Ao22 y1149.length co22 : Value).ownBlock ∧ some k_ ≠ (.slice Ao27 t1156.length co27 : Value).ownBlock ∧ some k_ ≠ (.slice Ao28 t1159.length co28 : Value).ownBlock ∧ some k_ ≠ (.slice Ao34 t1167.length co34 : Value).ownBlock ∧ some k_ ≠ (.slice Ao35 t1170.length co35 : Value).ownBlock ∧ some k_ ≠ (.slice Ao44 t1176.length co44 : Value).ownBlock ∧ some k_ ≠ (.slice Ao45 t1179.length co45 : Value).ownBlock) (.slice Ao23 y1152.length co23) y1152) := ⟨by (with_reducible repeat (first | apply Kd.Zf | apply Kd.Ze | apply Kd.Zj)); exact Kd.Zv (Kd.Yh (p := ⟨gb1183, 2, none⟩) (Kd.Yh (p := ⟨gb1183, 1, none⟩) (Kd.Yh (p := ⟨gb1183, 0, none⟩) (Kd.Yq HO1154.out BK1183.out (by decide)) (fun _ hk => hk.2) (.bool t1175)) (fun _ hk => hk.2) (.slice Ao44 t1176.length co44)) (fun _ hk => hk.2) (.slice Ao45 t1179.length co45)) (fun _ hk => ⟨hk.1.1.1.1, ⟨hk.1.1.1.2.1, ⟨hk.1.1.1.2.2.1, ⟨hk.1.1.1.2.2.2.1, ⟨hk.1.1.1.2.2.2.2, ⟨hk.1.1.2, hk.1.2⟩⟩⟩⟩⟩⟩)⟩
         have n2_ : Yt (Kd.R (Kd.int .u32) 47 (((w40.setCell ⟨gb1183, 0, none⟩ (.bool t1175)).setCell ⟨gb1183, 1, none⟩ (.slice Ao44 t1176.length co44)).setCell ⟨gb1183, 2, none⟩ (.slice Ao45 t1179.length co45)) w.heap.size (fun k_ => some k_ ≠ (.slice Ao22 y1149.length co22 : Value).ownBlock ∧ some k_ ≠ (.slice Ao23 y1152.length co23 : Value).ownBlock ∧ some k_ ≠ (.slice Ao28 t1159.length co28 : Value).ownBlock ∧ some k_ ≠ (.slice Ao34 t1167.length co34 : Value).ownBlock ∧ some k_ ≠ (.slice Ao35 t1170.length co35 : Value).ownBlock ∧ some k_ ≠ (.slice Ao44 t1176.length co44 : Value).ownBlock ∧ some k_ ≠ (.slice Ao45 t1179.length co45 : Value).ownBlock) (.slice Ao27 t1156.length co27) t1156) := ⟨by (with_reducible repeat (first | apply Kd.Zf | apply Kd.Ze | apply Kd.Zj)); exact Kd.Zv (Kd.Yh (p := ⟨gb1183, 2, none⟩) (Kd.Yh (p := ⟨gb1183, 1, none⟩) (Kd.Yh (p := ⟨gb1183, 0, none⟩) (Kd.Yq HO1158.out BK1183.out (by decide)) (fun _ hk => hk.2) (.bool t1175)) (fun _ hk => hk.2) (.slice Ao44 t1176.length co44)) (fun _ hk => hk.2) (.slice Ao45 t1179.length co45)) (fun _ hk => ⟨hk.1.1.1.1, ⟨hk.1.1.1.2.1, ⟨hk.1.1.1.2.2.1, ⟨hk.1.1.1.2.2.2.1, ⟨hk.1.1.1.2.2.2.2, ⟨hk.1.1.2, hk.1.2⟩⟩⟩⟩⟩⟩)⟩
         have n3_ : Yt (Kd.R (Kd.int .u32) 47 (((w40.setCell ⟨gb1183, 0, none⟩ (.bool t1175)).setCell ⟨gb1183, 1, none⟩ (.slice Ao44 t1176.length co44)).setCell ⟨gb1183, 2, none⟩ (.slice Ao45 t1179.length co45)) w.heap.size (fun k_ => some k_ ≠ (.slice Ao22 y1149.length co22 : Value).ownBlock ∧ some k_ ≠ (.slice Ao23 y1152.length co23 : Value).ownBlock ∧ some k_ ≠ (.slice Ao27 t1156.length co27 : Value).ownBlock ∧ some k_ ≠ (.slice Ao34 t1167.length co34 : Value).ownBlock ∧ some k_ ≠ (.slice Ao35 t1170.length co35 : Value).ownBlock ∧ some k_ ≠ (.slice Ao44 t1176.length co44 : Value).ownBlock ∧ some k_ ≠ (.slice Ao45 t1179.length co45 : Value).ownBlock) (.slice Ao28 t1159.length co28) t1159) := ⟨by (with_reducible repeat (first | apply Kd.Zf | apply Kd.Ze | apply Kd.Zj)); exact Kd.Zv (Kd.Yh (p := ⟨gb1183, 2, none⟩) (Kd.Yh (p := ⟨gb1183, 1, none⟩) (Kd.Yh (p := ⟨gb1183, 0, none⟩) (Kd.Yq HO1161.out BK1183.out (by decide)) (fun _ hk => hk.2) (.bool t1175)) (fun _ hk => hk.2) (.slice Ao44 t1176.length co44)) (fun _ hk => hk.2) (.slice Ao45 t1179.length co45)) (fun _ hk => ⟨hk.1.1.1.1, ⟨hk.1.1.1.2.1, ⟨hk.1.1.1.2.2.1, ⟨hk.1.1.1.2.2.2.1, ⟨hk.1.1.1.2.2.2.2, ⟨hk.1.1.2, hk.1.2⟩⟩⟩⟩⟩⟩)⟩
         have n4_ : Yt (Kd.R (Kd.int .u32) 47 (((w40.setCell ⟨gb1183, 0, none⟩ (.bool t1175)).setCell ⟨gb1183, 1, none⟩ (.slice Ao44 t1176.length co44)).setCell ⟨gb1183, 2, none⟩ (.slice Ao45 t1179.length co45)) w.heap.size (fun k_ => some k_ ≠ (.slice Ao22 y1149.length co22 : Value).ownBlock ∧ some k_ ≠ (.slice Ao23 y1152.length co23 : Value).ownBlock ∧ some k_ ≠ (.slice Ao27 t1156.length co27 : Value).ownBlock ∧ some k_ ≠ (.slice Ao28 t1159.length co28 : Value).ownBlock ∧ some k_ ≠ (.slice Ao35 t1170.length co35 : Value).ownBlock ∧ some k_ ≠ (.slice Ao44 t1176.length co44 : Value).ownBlock ∧ some k_ ≠ (.slice Ao45 t1179.length co45 : Value).ownBlock) (.slice Ao34 t1167.length co34) t1167) := ⟨by (with_reducible repeat (first | apply Kd.Zf | apply Kd.Ze | apply Kd.Zj)); exact Kd.Zv (Kd.Yh (p := ⟨gb1183, 2, none⟩) (Kd.Yh (p := ⟨gb1183, 1, none⟩) (Kd.Yh (p := ⟨gb1183, 0, none⟩) (Kd.Yq HO1169.out BK1183.out (by decide)) (fun _ hk => hk.2) (.bool t1175)) (fun _ hk => hk.2) (.slice Ao44 t1176.length co44)) (fun _ hk => hk.2) (.slice Ao45 t1179.length co45)) (fun _ hk => ⟨hk.1.1.1.1, ⟨hk.1.1.1.2.1, ⟨hk.1.1.1.2.2.1, ⟨hk.1.1.1.2.2.2.1, ⟨hk.1.1.1.2.2.2.2, ⟨hk.1.1.2, hk.1.2⟩⟩⟩⟩⟩⟩)⟩
         have n5_ : Yt (Kd.R (Kd.int .u32) 47 (((w40.setCell ⟨gb1183, 0, none⟩ (.bool t1175)).setCell ⟨gb1183, 1, none⟩ (.slice Ao44 t1176.length co44)).setCell ⟨gb1183, 2, none⟩ (.slice Ao45 t1179.length co45)) w.heap.size (fun k_ => some k_ ≠ (.slice Ao22 y1149.length co22 : Value).ownBlock ∧ some k_ ≠ (.slice Ao23 y1152.length co23 : Value).ownBlock ∧ some k_ ≠ (.slice Ao27 t1156.length co27 : Value).ownBlock ∧ some k_ ≠ (.slice Ao28 t1159.length co28 : Value).ownBlock ∧ some k_ ≠ (.slice Ao34 t1167.length co34 : Value).ownBlock ∧ some k_ ≠ (.slice Ao44 t1176.length co44 : Value).ownBlock ∧ some k_ ≠ (.slice Ao45 t1179.length co45 : Value).ownBlock) (.slice Ao35 t1170.length co35) t1170) := ⟨by (with_reducible repeat (first | apply Kd.Zf | apply Kd.Ze | apply Kd.Zj)); exact Kd.Zv (Kd.Yh (p := ⟨gb1183, 2, none⟩) (Kd.Yh (p := ⟨gb1183, 1, none⟩) (Kd.Yh (p := ⟨gb1183, 0, none⟩) (Kd.Yq HO1172.out BK1183.out (by decide)) (fun _ hk => hk.2) (.bool t1175)) (fun _ hk => hk.2) (.slice Ao44 t1176.length co44)) (fun _ hk => hk.2) (.slice Ao45 t1179.length co45)) (fun _ hk => ⟨hk.1.1.1.1, ⟨hk.1.1.1.2.1, ⟨hk.1.1.1.2.2.1, ⟨hk.1.1.1.2.2.2.1, ⟨hk.1.1.1.2.2.2.2, ⟨hk.1.1.2, hk.1.2⟩⟩⟩⟩⟩⟩)⟩
         have n6_ : Yt (Kd.R (Kd.int .u32) 47 (((w40.setCell ⟨gb1183, 0, none⟩ (.bool t1175)).setCell ⟨gb1183, 1, none⟩ (.slice Ao44 t1176.length co44)).setCell ⟨gb1183, 2, none⟩ (.slice Ao45 t1179.length co45)) w.heap.size (fun k_ => some k_ ≠ (.slice Ao22 y1149.length co22 : Value).ownBlock ∧ some k_ ≠ (.slice Ao23 y1152.length co23 : Value).ownBlock ∧ some k_ ≠ (.slice Ao27 t1156.length co27 : Value).ownBlock ∧ some k_ ≠ (.slice Ao28 t1159.length co28 : Value).ownBlock ∧ some k_ ≠ (.slice Ao34 t1167.length co34 : Value).ownBlock ∧ some k_ ≠ (.slice Ao35 t1170.length co35 : Value).ownBlock ∧ some k_ ≠ (.slice Ao45 t1179.length co45 : Value).ownBlock) (.slice Ao44 t1176.length co44) t1176) := ⟨by (with_reducible repeat (first | apply Kd.Zf | apply Kd.Ze | apply Kd.Zj)); exact Kd.Zv (Kd.Yh (p := ⟨gb1183, 2, none⟩) (Kd.Yh (p := ⟨gb1183, 1, none⟩) (Kd.Yh (p := ⟨gb1183, 0, none⟩) (Kd.Yq HO1178.out BK1183.out (by decide)) (fun _ hk => hk.2) (.bool t1175)) (fun _ hk => hk.2) (.slice Ao44 t1176.length co44)) (fun _ hk => hk.2) (.slice Ao45 t1179.length co45)) (fun _ hk => ⟨hk.1.1.1.1.1.1.2, ⟨hk.1.1.1.1.1.2, ⟨hk.1.1.1.1.2, ⟨hk.1.1.1.2, ⟨hk.1.1.2, ⟨hk.1.2, hk.1.1.1.1.1.1.1⟩⟩⟩⟩⟩⟩)⟩
         have n7_ : Yt (Kd.R (Kd.int .u32) 47 (((w40.setCell ⟨gb1183, 0, none⟩ (.bool t1175)).setCell ⟨gb1183, 1, none⟩ (.slice Ao44 t1176.length co44)).setCell ⟨gb1183, 2, none⟩ (.slice Ao45 t1179.length co45)) w.heap.size (fun k_ => some k_ ≠ (.slice Ao22 y1149.length co22 : Value).ownBlock ∧ some k_ ≠ (.slice Ao23 y1152.length co23 : Value).ownBlock ∧ some k_ ≠ (.slice Ao27 t1156.length co27 : Value).ownBlock ∧ some k_ ≠ (.slice Ao28 t1159.length co28 : Value).ownBlock ∧ some k_ ≠ (.slice Ao34 t1167.length co34 : Value).ownBlock ∧ some k_ ≠ (.slice Ao35 t1170.length co35 : Value).ownBlock ∧ some k_ ≠ (.slice Ao44 t1176.length co44 : Value).ownBlock) (.slice Ao45 t1179.length co45) t1179) := ⟨by (with_reducible repeat (first | apply Kd.Zf | apply Kd.Ze | apply Kd.Zj)); exact Kd.Zv (Kd.Yh (p := ⟨gb1183, 2, none⟩) (Kd.Yh (p := ⟨gb1183, 1, none⟩) (Kd.Yh (p := ⟨gb1183, 0, none⟩) (Kd.Yq HO1181.out BK1183.out (by decide)) (fun _ hk => hk.2) (.bool t1175)) (fun _ hk => hk.2) (.slice Ao44 t1176.length co44)) (fun _ hk => hk.2) (.slice Ao45 t1179.length co45)) (fun _ hk => ⟨hk.1.1.1.1.1.1.2, ⟨hk.1.1.1.1.1.2, ⟨hk.1.1.1.1.2, ⟨hk.1.1.1.2, ⟨hk.1.1.2, ⟨hk.1.2, hk.1.1.1.1.1.1.1⟩⟩⟩⟩⟩⟩)⟩
         have n8_ : Yt ((((w40.setCell ⟨gb1183, 0, none⟩ (.bool t1175)).setCell ⟨gb1183, 1, none⟩ (.slice Ao44 t1176.length co44)).setCell ⟨gb1183, 2, none⟩ (.slice Ao45 t1179.length co45)).heap[gb1163]? = some (.cells #[.bool t1155, .slice Ao27 t1156.length co27, .slice Ao28 t1159.length co28] 50 (0, 0))) := ⟨by (with_reducible repeat (first | refine Zg ?_ _ | refine Zi ?_ | refine Zh ?_ _)); refine blk_far ?_ NB1163_1183.out _; (with_reducible repeat (first | refine Zg ?_ _ | refine Zi ?_ | refine Zh ?_ _)); refine blk_far ?_ NB1163_1183.out _; (with_reducible repeat (first | refine Zg ?_ _ | refine Zi ?_ | refine Zh ?_ _)); refine blk_far ?_ NB1163_1183.out _; (with_reducible repeat (first | refine Zg ?_ _ | refine Zi ?_ | refine Zh ?_ _)); exact BK1163.out⟩
         have n9_ : Yt ((((w40.setCell ⟨gb1183, 0, none⟩ (.bool t1175)).setCell ⟨gb1183, 1, none⟩ (.slice Ao44 t1176.length co44)).setCell ⟨gb1183, 2, none⟩ (.slice Ao45 t1179.length co45)).heap[gb1174]? = some (.cells #[.bool t1166, .slice Ao34 t1167.length co34, .slice Ao35 t1170.length co35] 50 (0, 0))) := ⟨by (with_reducible repeat (first | refine Zg ?_ _ | refine Zi ?_ | refine Zh ?_ _)); refine blk_far ?_ NB1174_1183.out _; (with_reducible repeat (first | refine Zg ?_ _ | refine Zi ?_ | refine Zh ?_ _)); refine blk_far ?_ NB1174_1183.out _; (with_reducible repeat (first | refine Zg ?_ _ | refine Zi ?_ | refine Zh ?_ _)); refine blk_far ?_ NB1174_1183.out _; (with_reducible repeat (first | refine Zg ?_ _ | refine Zi ?_ | refine Zh ?_ _)); exact BK1174.out⟩
         have n10_ : Yt ((((w40.setCell ⟨gb1183, 0, none⟩ (.bool t1175)).setCell ⟨gb1183, 1, none⟩ (.slice Ao44 t1176.length co44)).setCell ⟨gb1183, 2, none⟩ (.slice Ao45 t1179.length co45)).heap[gb1183]? = some (.cells #[.bool t1175, .slice Ao44 t1176.length co44, .slice Ao45 t1179.length co45] 50 (0, 0))) := ⟨by (with_reducible repeat (first | refine Zg ?_ _ | refine Zi ?_ | refine Zh ?_ _)); refine Ym (cs := #[.bool t1175, .slice Ao44 t1176.length co44, .slice none 0 0]) ?_ 2 _ rfl; (with_reducible repeat (first | refine Zg ?_ _ | refine Zi ?_ | refine Zh ?_ _)); refine Ym (cs := #[.bool t1175, .slice none 0 0, .slice none 0 0]) ?_ 1 _ rfl; (with_reducible repeat (first | refine Zg ?_ _ | refine Zi ?_ | refine Zh ?_ _)); refine Ym (cs := #[.bool false, .slice none 0 0, .slice none 0 0]) ?_ 0 _ rfl; (with_reducible repeat (first | refine Zg ?_ _ | refine Zi ?_ | refine Zh ?_ _)); exact BK1183.out⟩
         have n11_ : Yt (Below w.heap.size w (((w40.setCell ⟨gb1183, 0, none⟩ (.bool t1175)).setCell ⟨gb1183, 1, none⟩ (.slice Ao44 t1176.length co44)).setCell ⟨gb1183, 2, none⟩ (.slice Ao45 t1179.length co45))) := ⟨by repeat (first | (with_reducible first | exact HB.out | apply Zb | apply Za | apply Zc | refine Zd ?_ GE1163.out | refine Zd ?_ GE1174.out | refine Zd ?_ GE1183.out) | exact HB.out)⟩
         (try clear HO1151)
         (try clear HO1154)
         (try clear HO1158)
         (try clear HO1161)
         (try clear HO1169)
         (try clear HO1172)
         (try clear HO1178)
         (try clear HO1181)
         (try clear BK1163)
         (try clear BK1174)
         (try clear BK1183)
         (try clear HB)
         generalize (((w40.setCell ⟨gb1183, 0, none⟩ (.bool t1175)).setCell ⟨gb1183, 1, none⟩ (.slice Ao44 t1176.length co44)).setCell ⟨gb1183, 2, none⟩ (.slice Ao45 t1179.length co45)) = w46 at n0_ n1_ n2_ n3_ n4_ n5_ n6_ n7_ n8_ n9_ n10_ n11_ ⊢
         have HO1151 := n0_
         have HO1154 := n1_
         have HO1158 := n2_
         have HO1161 := n3_
         have HO1169 := n4_
         have HO1172 := n5_
         have HO1178 := n6_
         have HO1181 := n7_
         have BK1163 := n8_
         have BK1174 := n9_
         have BK1183 := n10_
         have HB := n11_
         clear n0_ n1_ n2_ n3_ n4_ n5_ n6_ n7_ n8_ n9_ n10_ n11_
         have n0_ := Yt.mk (Kd.Zj HO1151.out)
         have n1_ := Yt.mk (Kd.Zj HO1154.out)
         have n2_ := Yt.mk (Kd.Zj HO1158.out)
         have n3_ := Yt.mk (Kd.Zj HO1161.out)
         have n4_ := Yt.mk (Kd.Zj HO1169.out)
         have n5_ := Yt.mk (Kd.Zj HO1172.out)
         have n6_ := Yt.mk (Kd.Zj HO1178.out)
         have n7_ := Yt.mk (Kd.Zj HO1181.out)
         have n8_ := Yt.mk (Zi BK1163.out)
         have n9_ := Yt.mk (Zi BK1174.out)
         have n10_ := Yt.mk (Zi BK1183.out)
         have n11_ := Yt.mk (Zc HB.out)
         clear HO1151
         clear HO1154
         clear HO1158
         clear HO1161
         clear HO1169
         clear HO1172
         clear HO1178
         clear HO1181
         clear BK1163
         clear BK1174
         clear BK1183
         clear HB
         have HO1151 := n0_
         have HO1154 := n1_
         have HO1158 := n2_
         have HO1161 := n3_
         have HO1169 := n4_
         have HO1172 := n5_
         have HO1178 := n6_
         have HO1181 := n7_
         have BK1163 := n8_
         have BK1174 := n9_
         have BK1183 := n10_
         have HB := n11_
         clear n0_ n1_ n2_ n3_ n4_ n5_ n6_ n7_ n8_ n9_ n10_ n11_
         refine start_ (n := 19) (S := fun w' => w'.cell? ⟨gb1183, 0, none⟩ = some (.bool t1175) ∧ w'.cell? ⟨gb1183, 1, none⟩ = some (.slice Ao44 t1176.length co44) ∧ w'.cell? ⟨gb1183, 2, none⟩ = some (.slice Ao45 t1179.length co45) ∧ w'.cell? ⟨gb1163, 0, none⟩ = some (.bool t1155) ∧ w'.cell? ⟨gb1163, 1, none⟩ = some (.slice Ao27 t1156.length co27) ∧ w'.cell? ⟨gb1163, 2, none⟩ = some (.slice Ao28 t1159.length co28) ∧ w'.cell? ⟨gb1174, 0, none⟩ = some (.bool t1166) ∧ w'.cell? ⟨gb1174, 1, none⟩ = some (.slice Ao34 t1167.length co34) ∧ w'.cell? ⟨gb1174, 2, none⟩ = some (.slice Ao35 t1170.length co35)) (ds := []) #[false, false, false, false, false, false, false, false, false, false, false, false, false, false, false, false, false, false, false] (by kernel_rfl) rfl rfl ⟨(Zl BK1183.out 0).trans rfl, (Zl BK1183.out 1).trans rfl, (Zl BK1183.out 2).trans rfl, (Zl BK1163.out 0).trans rfl, (Zl BK1163.out 1).trans rfl, (Zl BK1163.out 2).trans rfl, (Zl BK1174.out 0).trans rfl, (Zl BK1174.out 1).trans rfl, (Zl BK1174.out 2).trans rfl⟩ (fun hHeld => ?_); refine with_tabW sibyllaw02_wakes.tab7 sibyllaw02_wakes.bits7 (fun HT_ HW_ => ?_)
         generalize w46.drew = w47 at HO1151 HO1154 HO1158 HO1161 HO1169 HO1172 HO1178 HO1181 BK1163 BK1174 BK1183 HB hHeld ⊢
         refine take_ (i := 0) (N := some 48) (v := ?_) (a' := ?_) #[true, false, false, false, false, false, false, false, false, false, false, false, false, false, false, false, false, false, false] rfl rfl (take_ofW HT_.out HW_.out (by kernel_rfl)) (fun _ _ _ h => h) (Or.inl ⟨by rfl, ?_⟩) hHeld ?_ ?_
         rotate_left
         ·rintro w' ⟨s0, s1, s2, s3, s4, s5, s6, s7, s8⟩
          go_simp
          with_reducible rfl
         rotate_left
         ·simp only [Act.put, List.setIfInBounds_toArray, List.set_cons_zero, List.set_cons_succ, Yi, Yj]
          rfl
         refine one_ (i := 1) (N := some 49) #[true, true, false, false, false, false, false, false, false, false, false, false, false, false, false, false, false, false, false] rfl rfl (one_of HT_.out (by kernel_rfl)) (by decide) (fun K hK => ?_)
         refine goes_ Try.func55 (by kernel_rfl) rfl #[.int .i64 0] (by rfl) rfl rfl (by (try simp only [List.map_toArray, List.map_cons, List.map_nil]); first | done | rfl | (simp only [List.length_drop, List.length_take]; rfl)) ?_
         with_reducible refine (ratio_Of.calls k 0 t1184 t1185 t1188 _ A10.out).mono ?_
         rintro e w48 ⟨v1186, v1189, rfl, ho0, ho1, hb⟩
         refine ⟨_, rfl, ?_⟩
         have n0_ := Yt.mk (Kd.Zv (Kd.Yl (Kd.Yl (Kd.R_old (by (with_reducible repeat (first | apply Kd.Zf | apply Kd.Ze | apply Kd.Zj)); exact HO1151.out) hb) (Kd.Zw ho0)) (Kd.Zw ho1)) (fun _ h_ => h_.1))
         have n1_ := Yt.mk (Kd.Zv (Kd.Yl (Kd.Yl (Kd.R_old (by (with_reducible repeat (first | apply Kd.Zf | apply Kd.Ze | apply Kd.Zj)); exact HO1154.out) hb) (Kd.Zw ho0)) (Kd.Zw ho1)) (fun _ h_ => h_.1))
         have n2_ := Yt.mk (Kd.Zv (Kd.Yl (Kd.Yl (Kd.R_old (by (with_reducible repeat (first | apply Kd.Zf | apply Kd.Ze | apply Kd.Zj)); exact HO1158.out) hb) (Kd.Zw ho0)) (Kd.Zw ho1)) (fun _ h_ => h_.1))
         have n3_ := Yt.mk (Kd.Zv (Kd.Yl (Kd.Yl (Kd.R_old (by (with_reducible repeat (first | apply Kd.Zf | apply Kd.Ze | apply Kd.Zj)); exact HO1161.out) hb) (Kd.Zw ho0)) (Kd.Zw ho1)) (fun _ h_ => h_.1))
         have n4_ := Yt.mk (Kd.Zv (Kd.Yl (Kd.Yl (Kd.R_old (by (with_reducible repeat (first | apply Kd.Zf | apply Kd.Ze | apply Kd.Zj)); exact HO1169.out) hb) (Kd.Zw ho0)) (Kd.Zw ho1)) (fun _ h_ => h_.1))
         have n5_ := Yt.mk (Kd.Zv (Kd.Yl (Kd.Yl (Kd.R_old (by (with_reducible repeat (first | apply Kd.Zf | apply Kd.Ze | apply Kd.Zj)); exact HO1172.out) hb) (Kd.Zw ho0)) (Kd.Zw ho1)) (fun _ h_ => h_.1))
         have n6_ := Yt.mk (Kd.Zv (Kd.Yl (Kd.Yl (Kd.R_old (by (with_reducible repeat (first | apply Kd.Zf | apply Kd.Ze | apply Kd.Zj)); exact HO1178.out) hb) (Kd.Zw ho0)) (Kd.Zw ho1)) (fun _ h_ => h_.1))
         have n7_ := Yt.mk (Kd.Zv (Kd.Yl (Kd.Yl (Kd.R_old (by (with_reducible repeat (first | apply Kd.Zf | apply Kd.Ze | apply Kd.Zj)); exact HO1181.out) hb) (Kd.Zw ho0)) (Kd.Zw ho1)) (fun _ h_ => h_.1))
         have n8_ := Yt.mk (Kd.Yb (Kd.Ya (Kd.Ya (Kd.Ya (Kd.Ya (Kd.Ya (Kd.Ya (Kd.Ya (Kd.Ya ho0 (Kd.R_lt (by (with_reducible repeat (first | apply Kd.Zf | apply Kd.Ze | apply Kd.Zj)); exact HO1151.out))) (Kd.R_lt (by (with_reducible repeat (first | apply Kd.Zf | apply Kd.Ze | apply Kd.Zj)); exact HO1154.out))) (Kd.R_lt (by (with_reducible repeat (first | apply Kd.Zf | apply Kd.Ze | apply Kd.Zj)); exact HO1158.out))) (Kd.R_lt (by (with_reducible repeat (first | apply Kd.Zf | apply Kd.Ze | apply Kd.Zj)); exact HO1161.out))) (Kd.R_lt (by (with_reducible repeat (first | apply Kd.Zf | apply Kd.Ze | apply Kd.Zj)); exact HO1169.out))) (Kd.R_lt (by (with_reducible repeat (first | apply Kd.Zf | apply Kd.Ze | apply Kd.Zj)); exact HO1172.out))) (Kd.R_lt (by (with_reducible repeat (first | apply Kd.Zf | apply Kd.Ze | apply Kd.Zj)); exact HO1178.out))) (Kd.R_lt (by (with_reducible repeat (first | apply Kd.Zf | apply Kd.Ze | apply Kd.Zj)); exact HO1181.out))) (Zk (by repeat (first | (with_reducible first | exact HB.out | apply Zb | apply Za | apply Zc | refine Zd ?_ GE1163.out | refine Zd ?_ GE1174.out | refine Zd ?_ GE1183.out) | exact HB.out))))
         have n9_ := Yt.mk (Kd.Yb (Kd.Ya (Kd.Ya (Kd.Ya (Kd.Ya (Kd.Ya (Kd.Ya (Kd.Ya (Kd.Ya ho1 (Kd.R_lt (by (with_reducible repeat (first | apply Kd.Zf | apply Kd.Ze | apply Kd.Zj)); exact HO1151.out))) (Kd.R_lt (by (with_reducible repeat (first | apply Kd.Zf | apply Kd.Ze | apply Kd.Zj)); exact HO1154.out))) (Kd.R_lt (by (with_reducible repeat (first | apply Kd.Zf | apply Kd.Ze | apply Kd.Zj)); exact HO1158.out))) (Kd.R_lt (by (with_reducible repeat (first | apply Kd.Zf | apply Kd.Ze | apply Kd.Zj)); exact HO1161.out))) (Kd.R_lt (by (with_reducible repeat (first | apply Kd.Zf | apply Kd.Ze | apply Kd.Zj)); exact HO1169.out))) (Kd.R_lt (by (with_reducible repeat (first | apply Kd.Zf | apply Kd.Ze | apply Kd.Zj)); exact HO1172.out))) (Kd.R_lt (by (with_reducible repeat (first | apply Kd.Zf | apply Kd.Ze | apply Kd.Zj)); exact HO1178.out))) (Kd.R_lt (by (with_reducible repeat (first | apply Kd.Zf | apply Kd.Ze | apply Kd.Zj)); exact HO1181.out))) (Zk (by repeat (first | (with_reducible first | exact HB.out | apply Zb | apply Za | apply Zc | refine Zd ?_ GE1163.out | refine Zd ?_ GE1174.out | refine Zd ?_ GE1183.out) | exact HB.out))))
         have n10_ := Yt.mk (Zq (g := gb1163) (o := .cells #[.bool t1155, .slice Ao27 t1156.length co27, .slice Ao28 t1159.length co28] 50 (0, 0)) (by (with_reducible repeat (first | refine Zg ?_ _ | refine Zi ?_ | refine Zh ?_ _)); exact BK1163.out) hb)
         have n11_ := Yt.mk (Zq (g := gb1174) (o := .cells #[.bool t1166, .slice Ao34 t1167.length co34, .slice Ao35 t1170.length co35] 50 (0, 0)) (by (with_reducible repeat (first | refine Zg ?_ _ | refine Zi ?_ | refine Zh ?_ _)); exact BK1174.out) hb)
         have n12_ := Yt.mk (Zq (g := gb1183) (o := .cells #[.bool t1175, .slice Ao44 t1176.length co44, .slice Ao45 t1179.length co45] 50 (0, 0)) (by (with_reducible repeat (first | refine Zg ?_ _ | refine Zi ?_ | refine Zh ?_ _)); exact BK1183.out) hb)
         have n13_ := Yt.mk (Zm (by repeat (first | (with_reducible first | exact HB.out | apply Zb | apply Za | apply Zc | refine Zd ?_ GE1163.out | refine Zd ?_ GE1174.out | refine Zd ?_ GE1183.out) | exact HB.out)) hb)
         clear HO1151
         clear HO1154
         clear HO1158
         clear HO1161
         clear HO1169
         clear HO1172
         clear HO1178
         clear HO1181
         clear BK1163
         clear BK1174
         clear BK1183
         clear HB
         have HO1151 := n0_
         have HO1154 := n1_
         have HO1158 := n2_
         have HO1161 := n3_
         have HO1169 := n4_
         have HO1172 := n5_
         have HO1178 := n6_
         have HO1181 := n7_
         have HO1187 := n8_
         have HO1190 := n9_
         have BK1163 := n10_
         have BK1174 := n11_
         have BK1183 := n12_
         have HB := n13_
         clear n0_ n1_ n2_ n3_ n4_ n5_ n6_ n7_ n8_ n9_ n10_ n11_ n12_ n13_
         (try clear hb)
         (try clear hb2)
         (try clear hk)
         (try clear hi)
         (try clear ho0)
         (try clear ho1)
         obtain ⟨Ao49, co49, eo49⟩ := Kd.Zx HO1187.out
         (first | subst eo49 | (injection eo49 with f1_ f2_ f3_; have f4_ := f1_.symm; have f5_ := f3_.symm; clear f1_ f2_ f3_; subst f4_; subst f5_))
         obtain ⟨Ao50, co50, eo50⟩ := Kd.Zx HO1190.out
         (first | subst eo50 | (injection eo50 with f1_ f2_ f3_; have f4_ := f1_.symm; have f5_ := f3_.symm; clear f1_ f2_ f3_; subst f4_; subst f5_))
         refine hK.out _ _ ⟨(Zl BK1183.out 0).trans rfl, (Zl BK1183.out 1).trans rfl, (Zl BK1183.out 2).trans rfl, (Zl BK1163.out 0).trans rfl, (Zl BK1163.out 1).trans rfl, (Zl BK1163.out 2).trans rfl, (Zl BK1174.out 0).trans rfl, (Zl BK1174.out 1).trans rfl, (Zl BK1174.out 2).trans rfl⟩ (fun hHeld => ?_)
         clear hK K
         refine norm_ (a' := ?_) ?_ ?_
         rotate_left
         ·show Act.put _ (some 49) _ = _
          simp only [Act.put, List.setIfInBounds_toArray, List.set_cons_zero, List.set_cons_succ, Yi, Yj]
          rfl
         refine one_ (i := 2) (N := some 50) #[true, true, true, false, false, false, false, false, false, false, false, false, false, false, false, false, false, false, false] rfl rfl (one_of HT_.out (by kernel_rfl)) (by decide) (fun K hK => ?_)
         refine goes_ Try.func53 (by kernel_rfl) rfl #[.agg #[.bool t1175, .slice Ao44 t1176.length co44, .slice Ao45 t1179.length co45], .agg #[.bool t1184, .slice Ao49 t1185.length co49, .slice Ao50 t1188.length co50]] (by rfl) rfl rfl (by (try simp only [List.map_toArray, List.map_cons, List.map_nil]); first | done | rfl | (simp only [List.length_drop, List.length_take]; rfl)) ?_
         with_reducible refine (ratio_Same.calls k t1175 _ _ t1176 _ _ t1179 t1184 _ _ t1185 _ _ t1188 true _ ?side1 ?side2 ?side3 ?side4 ?side5 ?side6 ?side7 ?side8 A11.out).mono ?_
         (case side1 => repeat (first | exact (Kd.Zs HO1178.out).2.2 | (with_reducible refine Kd.Zu ?_ _) | (with_reducible refine Kd.Zt ?_ _) | (with_reducible refine Kd.Yc ?_)))
         (case side2 => exact (Kd.Zs HO1178.out).2.1)
         (case side3 => repeat (first | exact (Kd.Zs HO1181.out).2.2 | (with_reducible refine Kd.Zu ?_ _) | (with_reducible refine Kd.Zt ?_ _) | (with_reducible refine Kd.Yc ?_)))
         (case side4 => exact (Kd.Zs HO1181.out).2.1)
         (case side5 => repeat (first | exact (Kd.Zs HO1187.out).2.2 | (with_reducible refine Kd.Zu ?_ _) | (with_reducible refine Kd.Zt ?_ _) | (with_reducible refine Kd.Yc ?_)))
         (case side6 => exact (Kd.Zs HO1187.out).2.1)
         (case side7 => repeat (first | exact (Kd.Zs HO1190.out).2.2 | (with_reducible refine Kd.Zu ?_ _) | (with_reducible refine Kd.Zt ?_ _) | (with_reducible refine Kd.Yc ?_)))
         (case side8 => exact (Kd.Zs HO1190.out).2.1)
         rintro e w51 ⟨rfl, hb⟩
         refine ⟨_, rfl, ?_⟩
         have n0_ := Yt.mk (Kd.Yd (by (with_reducible repeat (first | apply Kd.Zf | apply Kd.Ze | apply Kd.Zj)); exact HO1151.out) hb)
         have n1_ := Yt.mk (Kd.Yd (by (with_reducible repeat (first | apply Kd.Zf | apply Kd.Ze | apply Kd.Zj)); exact HO1154.out) hb)
         have n2_ := Yt.mk (Kd.Yd (by (with_reducible repeat (first | apply Kd.Zf | apply Kd.Ze | apply Kd.Zj)); exact HO1158.out) hb)
         have n3_ := Yt.mk (Kd.Yd (by (with_reducible repeat (first | apply Kd.Zf | apply Kd.Ze | apply Kd.Zj)); exact HO1161.out) hb)
         have n4_ := Yt.mk (Kd.Yd (by (with_reducible repeat (first | apply Kd.Zf | apply Kd.Ze | apply Kd.Zj)); exact HO1169.out) hb)
         have n5_ := Yt.mk (Kd.Yd (by (with_reducible repeat (first | apply Kd.Zf | apply Kd.Ze | apply Kd.Zj)); exact HO1172.out) hb)
         have n6_ := Yt.mk (Kd.Yd (by (with_reducible repeat (first | apply Kd.Zf | apply Kd.Ze | apply Kd.Zj)); exact HO1178.out) hb)
         have n7_ := Yt.mk (Kd.Yd (by (with_reducible repeat (first | apply Kd.Zf | apply Kd.Ze | apply Kd.Zj)); exact HO1181.out) hb)
         have n8_ := Yt.mk (Kd.Yd (by (with_reducible repeat (first | apply Kd.Zf | apply Kd.Ze | apply Kd.Zj)); exact HO1187.out) hb)
         have n9_ := Yt.mk (Kd.Yd (by (with_reducible repeat (first | apply Kd.Zf | apply Kd.Ze | apply Kd.Zj)); exact HO1190.out) hb)
         have n10_ := Yt.mk (Zq (g := gb1163) (o := .cells #[.bool t1155, .slice Ao27 t1156.length co27, .slice Ao28 t1159.length co28] 50 (0, 0)) (by (with_reducible repeat (first | refine Zg ?_ _ | refine Zi ?_ | refine Zh ?_ _)); exact BK1163.out) hb)
         have n11_ := Yt.mk (Zq (g := gb1174) (o := .cells #[.bool t1166, .slice Ao34 t1167.length co34, .slice Ao35 t1170.length co35] 50 (0, 0)) (by (with_reducible repeat (first | refine Zg ?_ _ | refine Zi ?_ | refine Zh ?_ _)); exact BK1174.out) hb)
         have n12_ := Yt.mk (Zq (g := gb1183) (o := .cells #[.bool t1175, .slice Ao44 t1176.length co44, .slice Ao45 t1179.length co45] 50 (0, 0)) (by (with_reducible repeat (first | refine Zg ?_ _ | refine Zi ?_ | refine Zh ?_ _)); exact BK1183.out) hb)
         have n13_ := Yt.mk (Zm (by repeat (first | (with_reducible first | exact HB.out | apply Zb | apply Za | apply Zc | refine Zd ?_ GE1163.out | refine Zd ?_ GE1174.out | refine Zd ?_ GE1183.out) | exact HB.out)) hb)
         clear HO1151
         clear HO1154
         clear HO1158
         clear HO1161
         clear HO1169
         clear HO1172
         clear HO1178
         clear HO1181
         clear HO1187
         clear HO1190
         clear BK1163
         clear BK1174
         clear BK1183
         clear HB
         have HO1151 := n0_
         have HO1154 := n1_
         have HO1158 := n2_
         have HO1161 := n3_
         have HO1169 := n4_
         have HO1172 := n5_
         have HO1178 := n6_
         have HO1181 := n7_
         have HO1187 := n8_
         have HO1190 := n9_
         have BK1163 := n10_
         have BK1174 := n11_
         have BK1183 := n12_
         have HB := n13_
         clear n0_ n1_ n2_ n3_ n4_ n5_ n6_ n7_ n8_ n9_ n10_ n11_ n12_ n13_
         (try clear hb)
         (try clear hb2)
         (try clear hk)
         (try clear hi)
         refine hK.out _ _ ⟨(Zl BK1183.out 0).trans rfl, (Zl BK1183.out 1).trans rfl, (Zl BK1183.out 2).trans rfl, (Zl BK1163.out 0).trans rfl, (Zl BK1163.out 1).trans rfl, (Zl BK1163.out 2).trans rfl, (Zl BK1174.out 0).trans rfl, (Zl BK1174.out 1).trans rfl, (Zl BK1174.out 2).trans rfl⟩ (fun hHeld => ?_)
         clear hK K
         refine norm_ (a' := ?_) ?_ ?_
         rotate_left
         ·show Act.put _ (some 50) _ = _
          simp only [Act.put, List.setIfInBounds_toArray, List.set_cons_zero, List.set_cons_succ, Yi, Yj]
          rfl
         refine pure_ (i := 3) (N := some 51) (v := ?_) (a' := ?_) #[true, true, true, true, false, false, false, false, false, false, false, false, false, false, false, false, false, false, false] rfl rfl (any_of HT_.out (by kernel_rfl)) (fun _ _ _ h => h) (Or.inl ⟨by rfl, ?_⟩) ?_ ?_
         rotate_left
         ·intro w'
          go_simp
          with_reducible rfl
         rotate_left
         ·simp only [Act.put, List.setIfInBounds_toArray, List.set_cons_zero, List.set_cons_succ, Yi, Yj]
          rfl
         refine take_ (i := 4) (N := some 52) (v := ?_) (a' := ?_) #[true, true, true, true, true, false, false, false, false, false, false, false, false, false, false, false, false, false, false] rfl rfl (take_ofW HT_.out HW_.out (by kernel_rfl)) (fun _ _ _ h => h) (Or.inl ⟨by rfl, ?_⟩) hHeld ?_ ?_
         rotate_left
         ·rintro w' ⟨s0, s1, s2, s3, s4, s5, s6, s7, s8⟩
          go_simp
          with_reducible rfl
         rotate_left
         ·simp only [Act.put, List.setIfInBounds_toArray, List.set_cons_zero, List.set_cons_succ, Yi, Yj]
          rfl
         refine one_ (i := 5) (N := some 53) #[true, true, true, true, true, true, false, false, false, false, false, false, false, false, false, false, false, false, false] rfl rfl (one_of HT_.out (by kernel_rfl)) (by decide) (fun K hK => ?_)
         refine goes_ Try.func50 (by kernel_rfl) rfl #[.agg #[.bool t1155, .slice Ao27 t1156.length co27, .slice Ao28 t1159.length co28]] (by rfl) rfl rfl (by (try simp only [List.map_toArray, List.map_cons, List.map_nil]); first | done | rfl | (simp only [List.length_drop, List.length_take]; rfl)) ?_
         with_reducible refine (ratio_Form.calls k t1155 _ _ t1156 _ _ t1159 true _ ?side1 ?side2 ?side3 ?side4 A13.out).mono ?_
         (case side1 => repeat (first | exact (Kd.Zs HO1158.out).2.2 | (with_reducible refine Kd.Zu ?_ _) | (with_reducible refine Kd.Zt ?_ _) | (with_reducible refine Kd.Yc ?_)))
         (case side2 => exact (Kd.Zs HO1158.out).2.1)
         (case side3 => repeat (first | exact (Kd.Zs HO1161.out).2.2 | (with_reducible refine Kd.Zu ?_ _) | (with_reducible refine Kd.Zt ?_ _) | (with_reducible refine Kd.Yc ?_)))
         (case side4 => exact (Kd.Zs HO1161.out).2.1)
         rintro e w52 ⟨rfl, hb⟩
         refine ⟨_, rfl, ?_⟩
         have n0_ := Yt.mk (Kd.Yd (by (with_reducible repeat (first | apply Kd.Zf | apply Kd.Ze | apply Kd.Zj)); exact HO1151.out) hb)
         have n1_ := Yt.mk (Kd.Yd (by (with_reducible repeat (first | apply Kd.Zf | apply Kd.Ze | apply Kd.Zj)); exact HO1154.out) hb)
         have n2_ := Yt.mk (Kd.Yd (by (with_reducible repeat (first | apply Kd.Zf | apply Kd.Ze | apply Kd.Zj)); exact HO1158.out) hb)
         have n3_ := Yt.mk (Kd.Yd (by (with_reducible repeat (first | apply Kd.Zf | apply Kd.Ze | apply Kd.Zj)); exact HO1161.out) hb)
         have n4_ := Yt.mk (Kd.Yd (by (with_reducible repeat (first | apply Kd.Zf | apply Kd.Ze | apply Kd.Zj)); exact HO1169.out) hb)
         have n5_ := Yt.mk (Kd.Yd (by (with_reducible repeat (first | apply Kd.Zf | apply Kd.Ze | apply Kd.Zj)); exact HO1172.out) hb)
         have n6_ := Yt.mk (Kd.Yd (by (with_reducible repeat (first | apply Kd.Zf | apply Kd.Ze | apply Kd.Zj)); exact HO1178.out) hb)
         have n7_ := Yt.mk (Kd.Yd (by (with_reducible repeat (first | apply Kd.Zf | apply Kd.Ze | apply Kd.Zj)); exact HO1181.out) hb)
         have n8_ := Yt.mk (Kd.Yd (by (with_reducible repeat (first | apply Kd.Zf | apply Kd.Ze | apply Kd.Zj)); exact HO1187.out) hb)
         have n9_ := Yt.mk (Kd.Yd (by (with_reducible repeat (first | apply Kd.Zf | apply Kd.Ze | apply Kd.Zj)); exact HO1190.out) hb)
         have n10_ := Yt.mk (Zq (g := gb1163) (o := .cells #[.bool t1155, .slice Ao27 t1156.length co27, .slice Ao28 t1159.length co28] 50 (0, 0)) (by (with_reducible repeat (first | refine Zg ?_ _ | refine Zi ?_ | refine Zh ?_ _)); exact BK1163.out) hb)
         have n11_ := Yt.mk (Zq (g := gb1174) (o := .cells #[.bool t1166, .slice Ao34 t1167.length co34, .slice Ao35 t1170.length co35] 50 (0, 0)) (by (with_reducible repeat (first | refine Zg ?_ _ | refine Zi ?_ | refine Zh ?_ _)); exact BK1174.out) hb)
         have n12_ := Yt.mk (Zq (g := gb1183) (o := .cells #[.bool t1175, .slice Ao44 t1176.length co44, .slice Ao45 t1179.length co45] 50 (0, 0)) (by (with_reducible repeat (first | refine Zg ?_ _ | refine Zi ?_ | refine Zh ?_ _)); exact BK1183.out) hb)
         have n13_ := Yt.mk (Zm (by repeat (first | (with_reducible first | exact HB.out | apply Zb | apply Za | apply Zc | refine Zd ?_ GE1163.out | refine Zd ?_ GE1174.out | refine Zd ?_ GE1183.out) | exact HB.out)) hb)
         clear HO1151
         clear HO1154
         clear HO1158
         clear HO1161
         clear HO1169
         clear HO1172
         clear HO1178
         clear HO1181
         clear HO1187
         clear HO1190
         clear BK1163
         clear BK1174
         clear BK1183
         clear HB
         have HO1151 := n0_
         have HO1154 := n1_
         have HO1158 := n2_
         have HO1161 := n3_
         have HO1169 := n4_
         have HO1172 := n5_
         have HO1178 := n6_
         have HO1181 := n7_
         have HO1187 := n8_
         have HO1190 := n9_
         have BK1163 := n10_
         have BK1174 := n11_
         have BK1183 := n12_
         have HB := n13_
         clear n0_ n1_ n2_ n3_ n4_ n5_ n6_ n7_ n8_ n9_ n10_ n11_ n12_ n13_
         (try clear hb)
         (try clear hb2)
         (try clear hk)
         (try clear hi)
         refine hK.out _ _ ⟨(Zl BK1183.out 0).trans rfl, (Zl BK1183.out 1).trans rfl, (Zl BK1183.out 2).trans rfl, (Zl BK1163.out 0).trans rfl, (Zl BK1163.out 1).trans rfl, (Zl BK1163.out 2).trans rfl, (Zl BK1174.out 0).trans rfl, (Zl BK1174.out 1).trans rfl, (Zl BK1174.out 2).trans rfl⟩ (fun hHeld => ?_)
         clear hK K
         refine norm_ (a' := ?_) ?_ ?_
         rotate_left
         ·show Act.put _ (some 53) _ = _
          simp only [Act.put, List.setIfInBounds_toArray, List.set_cons_zero, List.set_cons_succ, Yi, Yj]
          rfl
         refine pure_ (i := 6) (N := some 54) (v := ?_) (a' := ?_) #[true, true, true, true, true, true, true, false, false, false, false, false, false, false, false, false, false, false, false] rfl rfl (any_of HT_.out (by kernel_rfl)) (fun _ _ _ h => h) (Or.inl ⟨by rfl, ?_⟩) ?_ ?_
         rotate_left
         ·intro w'
          go_simp
          with_reducible rfl
         rotate_left
         ·simp only [Act.put, List.setIfInBounds_toArray, List.set_cons_zero, List.set_cons_succ, Yi, Yj]
          rfl
         refine pure_ (i := 7) (N := some 55) (v := ?_) (a' := ?_) #[true, true, true, true, true, true, true, true, false, false, false, false, false, false, false, false, false, false, false] rfl rfl (any_of HT_.out (by kernel_rfl)) (fun _ _ _ h => h) (Or.inl ⟨by rfl, ?_⟩) ?_ ?_
         rotate_left
         ·intro w'
          go_simp
          with_reducible rfl
         rotate_left
         ·simp only [Act.put, List.setIfInBounds_toArray, List.set_cons_zero, List.set_cons_succ, Yi, Yj]
          rfl
         refine pure_ (i := 8) (N := some 56) (v := ?_) (a' := ?_) #[true, true, true, true, true, true, true, true, true, false, false, false, false, false, false, false, false, false, false] rfl rfl (any_of HT_.out (by kernel_rfl)) (fun _ _ _ h => h) (Or.inl ⟨by rfl, ?_⟩) ?_ ?_
         rotate_left
         ·intro w'
          go_simp
          with_reducible rfl
         rotate_left
         ·simp only [Act.put, List.setIfInBounds_toArray, List.set_cons_zero, List.set_cons_succ, Yi, Yj]
          rfl
         refine one_ (i := 9) (N := some 57) #[true, true, true, true, true, true, true, true, true, true, false, false, false, false, false, false, false, false, false] rfl rfl (one_of HT_.out (by kernel_rfl)) (by decide) (fun K hK => ?_)
         refine goes_ Try.func50 (by kernel_rfl) rfl #[.agg #[.bool false, .slice none 0 0, .slice none 0 0]] (by rfl) rfl rfl (by (try simp only [List.map_toArray, List.map_cons, List.map_nil]); first | done | rfl | (simp only [List.length_drop, List.length_take]; rfl)) ?_
         refine (ratio_Form.calls k false _ _ ([] : List Int) _ _ ([] : List Int) false _ ?side1 ?side2 ?side3 ?side4 A15.out).mono ?_
         (case side1 => exact Kd.C_nil _ _)
         (case side2 => exact Nat.le_refl _)
         (case side3 => exact Kd.C_nil _ _)
         (case side4 => exact Nat.le_refl _)
         rintro e w53 ⟨rfl, hb⟩
         refine ⟨_, rfl, ?_⟩
         have n0_ := Yt.mk (Kd.Yd (by (with_reducible repeat (first | apply Kd.Zf | apply Kd.Ze | apply Kd.Zj)); exact HO1151.out) hb)
         have n1_ := Yt.mk (Kd.Yd (by (with_reducible repeat (first | apply Kd.Zf | apply Kd.Ze | apply Kd.Zj)); exact HO1154.out) hb)
         have n2_ := Yt.mk (Kd.Yd (by (with_reducible repeat (first | apply Kd.Zf | apply Kd.Ze | apply Kd.Zj)); exact HO1158.out) hb)
         have n3_ := Yt.mk (Kd.Yd (by (with_reducible repeat (first | apply Kd.Zf | apply Kd.Ze | apply Kd.Zj)); exact HO1161.out) hb)
         have n4_ := Yt.mk (Kd.Yd (by (with_reducible repeat (first | apply Kd.Zf | apply Kd.Ze | apply Kd.Zj)); exact HO1169.out) hb)
         have n5_ := Yt.mk (Kd.Yd (by (with_reducible repeat (first | apply Kd.Zf | apply Kd.Ze | apply Kd.Zj)); exact HO1172.out) hb)
         have n6_ := Yt.mk (Kd.Yd (by (with_reducible repeat (first | apply Kd.Zf | apply Kd.Ze | apply Kd.Zj)); exact HO1178.out) hb)
         have n7_ := Yt.mk (Kd.Yd (by (with_reducible repeat (first | apply Kd.Zf | apply Kd.Ze | apply Kd.Zj)); exact HO1181.out) hb)
         have n8_ := Yt.mk (Kd.Yd (by (with_reducible repeat (first | apply Kd.Zf | apply Kd.Ze | apply Kd.Zj)); exact HO1187.out) hb)
         have n9_ := Yt.mk (Kd.Yd (by (with_reducible repeat (first | apply Kd.Zf | apply Kd.Ze | apply Kd.Zj)); exact HO1190.out) hb)
         have n10_ := Yt.mk (Zq (g := gb1163) (o := .cells #[.bool t1155, .slice Ao27 t1156.length co27, .slice Ao28 t1159.length co28] 50 (0, 0)) (by (with_reducible repeat (first | refine Zg ?_ _ | refine Zi ?_ | refine Zh ?_ _)); exact BK1163.out) hb)
         have n11_ := Yt.mk (Zq (g := gb1174) (o := .cells #[.bool t1166, .slice Ao34 t1167.length co34, .slice Ao35 t1170.length co35] 50 (0, 0)) (by (with_reducible repeat (first | refine Zg ?_ _ | refine Zi ?_ | refine Zh ?_ _)); exact BK1174.out) hb)
         have n12_ := Yt.mk (Zq (g := gb1183) (o := .cells #[.bool t1175, .slice Ao44 t1176.length co44, .slice Ao45 t1179.length co45] 50 (0, 0)) (by (with_reducible repeat (first | refine Zg ?_ _ | refine Zi ?_ | refine Zh ?_ _)); exact BK1183.out) hb)
         have n13_ := Yt.mk (Zm (by repeat (first | (with_reducible first | exact HB.out | apply Zb | apply Za | apply Zc | refine Zd ?_ GE1163.out | refine Zd ?_ GE1174.out | refine Zd ?_ GE1183.out) | exact HB.out)) hb)
         clear HO1151
         clear HO1154
         clear HO1158
         clear HO1161
         clear HO1169
         clear HO1172
         clear HO1178
         clear HO1181
         clear HO1187
         clear HO1190
         clear BK1163
         clear BK1174
         clear BK1183
         clear HB
         have HO1151 := n0_
         have HO1154 := n1_
         have HO1158 := n2_
         have HO1161 := n3_
         have HO1169 := n4_
         have HO1172 := n5_
         have HO1178 := n6_
         have HO1181 := n7_
         have HO1187 := n8_
         have HO1190 := n9_
         have BK1163 := n10_
         have BK1174 := n11_
         have BK1183 := n12_
         have HB := n13_
         clear n0_ n1_ n2_ n3_ n4_ n5_ n6_ n7_ n8_ n9_ n10_ n11_ n12_ n13_
         (try clear hb)
         (try clear hb2)
         (try clear hk)
         (try clear hi)
         refine hK.out _ _ ⟨(Zl BK1183.out 0).trans rfl, (Zl BK1183.out 1).trans rfl, (Zl BK1183.out 2).trans rfl, (Zl BK1163.out 0).trans rfl, (Zl BK1163.out 1).trans rfl, (Zl BK1163.out 2).trans rfl, (Zl BK1174.out 0).trans rfl, (Zl BK1174.out 1).trans rfl, (Zl BK1174.out 2).trans rfl⟩ (fun hHeld => ?_)
         clear hK K
         refine norm_ (a' := ?_) ?_ ?_
         rotate_left
         ·show Act.put _ (some 57) _ = _
          simp only [Act.put, List.setIfInBounds_toArray, List.set_cons_zero, List.set_cons_succ, Yi, Yj]
          rfl
         refine pure_ (i := 10) (N := some 58) (v := ?_) (a' := ?_) #[true, true, true, true, true, true, true, true, true, true, true, false, false, false, false, false, false, false, false] rfl rfl (any_of HT_.out (by kernel_rfl)) (fun _ _ _ h => h) (Or.inl ⟨by rfl, ?_⟩) ?_ ?_
         rotate_left
         ·intro w'
          go_simp
          with_reducible rfl
         rotate_left
         ·simp only [Act.put, List.setIfInBounds_toArray, List.set_cons_zero, List.set_cons_succ, Yi, Yj]
          rfl
         refine pure_ (i := 11) (N := some 59) (v := ?_) (a' := ?_) #[true, true, true, true, true, true, true, true, true, true, true, true, false, false, false, false, false, false, false] rfl rfl (any_of HT_.out (by kernel_rfl)) (fun _ _ _ h => h) (Or.inl ⟨by rfl, ?_⟩) ?_ ?_
         rotate_left
         ·intro w'
          go_simp
          with_reducible rfl
         rotate_left
         ·simp only [Act.put, List.setIfInBounds_toArray, List.set_cons_zero, List.set_cons_succ, Yi, Yj]
          rfl
         refine pure_ (i := 12) (N := some 60) (v := ?_) (a' := ?_) #[true, true, true, true, true, true, true, true, true, true, true, true, true, false, false, false, false, false, false] rfl rfl (any_of HT_.out (by kernel_rfl)) (fun _ _ _ h => h) (Or.inl ⟨by rfl, ?_⟩) ?_ ?_
         rotate_left
         ·intro w'
          go_simp
          with_reducible rfl
         rotate_left
         ·simp only [Act.put, List.setIfInBounds_toArray, List.set_cons_zero, List.set_cons_succ, Yi, Yj]
          rfl
         refine take_ (i := 13) (N := some 61) (v := ?_) (a' := ?_) #[true, true, true, true, true, true, true, true, true, true, true, true, true, true, false, false, false, false, false] rfl rfl (take_ofW HT_.out HW_.out (by kernel_rfl)) (fun _ _ _ h => h) (Or.inl ⟨by rfl, ?_⟩) hHeld ?_ ?_
         rotate_left
         ·rintro w' ⟨s0, s1, s2, s3, s4, s5, s6, s7, s8⟩
          go_simp
          with_reducible rfl
         rotate_left
         ·simp only [Act.put, List.setIfInBounds_toArray, List.set_cons_zero, List.set_cons_succ, Yi, Yj]
          rfl
         refine take_ (i := 14) (N := some 62) (v := ?_) (a' := ?_) #[true, true, true, true, true, true, true, true, true, true, true, true, true, true, true, false, false, false, false] rfl rfl (take_ofW HT_.out HW_.out (by kernel_rfl)) (fun _ _ _ h => h) (Or.inl ⟨by rfl, ?_⟩) hHeld ?_ ?_
         rotate_left
         ·rintro w' ⟨s0, s1, s2, s3, s4, s5, s6, s7, s8⟩
          go_simp
          with_reducible rfl
         rotate_left
         ·simp only [Act.put, List.setIfInBounds_toArray, List.set_cons_zero, List.set_cons_succ, Yi, Yj]
          rfl
         refine one_ (i := 15) (N := some 63) #[true, true, true, true, true, true, true, true, true, true, true, true, true, true, true, true, false, false, false] rfl rfl (one_of HT_.out (by kernel_rfl)) (by decide) (fun K hK => ?_)
         refine goes_ Try.func53 (by kernel_rfl) rfl #[.agg #[.bool t1155, .slice Ao27 t1156.length co27, .slice Ao28 t1159.length co28], .agg #[.bool t1166, .slice Ao34 t1167.length co34, .slice Ao35 t1170.length co35]] (by rfl) rfl rfl (by (try simp only [List.map_toArray, List.map_cons, List.map_nil]); first | done | rfl | (simp only [List.length_drop, List.length_take]; rfl)) ?_
         with_reducible refine (ratio_Same.calls k t1155 _ _ t1156 _ _ t1159 t1166 _ _ t1167 _ _ t1170 t1194 _ ?side1 ?side2 ?side3 ?side4 ?side5 ?side6 ?side7 ?side8 A17.out).mono ?_
         (case side1 => repeat (first | exact (Kd.Zs HO1158.out).2.2 | (with_reducible refine Kd.Zu ?_ _) | (with_reducible refine Kd.Zt ?_ _) | (with_reducible refine Kd.Yc ?_)))
         (case side2 => exact (Kd.Zs HO1158.out).2.1)
         (case side3 => repeat (first | exact (Kd.Zs HO1161.out).2.2 | (with_reducible refine Kd.Zu ?_ _) | (with_reducible refine Kd.Zt ?_ _) | (with_reducible refine Kd.Yc ?_)))
         (case side4 => exact (Kd.Zs HO1161.out).2.1)
         (case side5 => repeat (first | exact (Kd.Zs HO1169.out).2.2 | (with_reducible refine Kd.Zu ?_ _) | (with_reducible refine Kd.Zt ?_ _) | (with_reducible refine Kd.Yc ?_)))
         (case side6 => exact (Kd.Zs HO1169.out).2.1)
         (case side7 => repeat (first | exact (Kd.Zs HO1172.out).2.2 | (with_reducible refine Kd.Zu ?_ _) | (with_reducible refine Kd.Zt ?_ _) | (with_reducible refine Kd.Yc ?_)))
         (case side8 => exact (Kd.Zs HO1172.out).2.1)
         rintro e w54 ⟨rfl, hb⟩
         refine ⟨_, rfl, ?_⟩
         have n0_ := Yt.mk (Kd.Yd (by (with_reducible repeat (first | apply Kd.Zf | apply Kd.Ze | apply Kd.Zj)); exact HO1151.out) hb)
         have n1_ := Yt.mk (Kd.Yd (by (with_reducible repeat (first | apply Kd.Zf | apply Kd.Ze | apply Kd.Zj)); exact HO1154.out) hb)
         have n2_ := Yt.mk (Kd.Yd (by (with_reducible repeat (first | apply Kd.Zf | apply Kd.Ze | apply Kd.Zj)); exact HO1158.out) hb)
         have n3_ := Yt.mk (Kd.Yd (by (with_reducible repeat (first | apply Kd.Zf | apply Kd.Ze | apply Kd.Zj)); exact HO1161.out) hb)
         have n4_ := Yt.mk (Kd.Yd (by (with_reducible repeat (first | apply Kd.Zf | apply Kd.Ze | apply Kd.Zj)); exact HO1169.out) hb)
         have n5_ := Yt.mk (Kd.Yd (by (with_reducible repeat (first | apply Kd.Zf | apply Kd.Ze | apply Kd.Zj)); exact HO1172.out) hb)
         have n6_ := Yt.mk (Kd.Yd (by (with_reducible repeat (first | apply Kd.Zf | apply Kd.Ze | apply Kd.Zj)); exact HO1178.out) hb)
         have n7_ := Yt.mk (Kd.Yd (by (with_reducible repeat (first | apply Kd.Zf | apply Kd.Ze | apply Kd.Zj)); exact HO1181.out) hb)
         have n8_ := Yt.mk (Kd.Yd (by (with_reducible repeat (first | apply Kd.Zf | apply Kd.Ze | apply Kd.Zj)); exact HO1187.out) hb)
         have n9_ := Yt.mk (Kd.Yd (by (with_reducible repeat (first | apply Kd.Zf | apply Kd.Ze | apply Kd.Zj)); exact HO1190.out) hb)
         have n10_ := Yt.mk (Zq (g := gb1163) (o := .cells #[.bool t1155, .slice Ao27 t1156.length co27, .slice Ao28 t1159.length co28] 50 (0, 0)) (by (with_reducible repeat (first | refine Zg ?_ _ | refine Zi ?_ | refine Zh ?_ _)); exact BK1163.out) hb)
         have n11_ := Yt.mk (Zq (g := gb1174) (o := .cells #[.bool t1166, .slice Ao34 t1167.length co34, .slice Ao35 t1170.length co35] 50 (0, 0)) (by (with_reducible repeat (first | refine Zg ?_ _ | refine Zi ?_ | refine Zh ?_ _)); exact BK1174.out) hb)
         have n12_ := Yt.mk (Zq (g := gb1183) (o := .cells #[.bool t1175, .slice Ao44 t1176.length co44, .slice Ao45 t1179.length co45] 50 (0, 0)) (by (with_reducible repeat (first | refine Zg ?_ _ | refine Zi ?_ | refine Zh ?_ _)); exact BK1183.out) hb)
         have n13_ := Yt.mk (Zm (by repeat (first | (with_reducible first | exact HB.out | apply Zb | apply Za | apply Zc | refine Zd ?_ GE1163.out | refine Zd ?_ GE1174.out | refine Zd ?_ GE1183.out) | exact HB.out)) hb)
         clear HO1151
         clear HO1154
         clear HO1158
         clear HO1161
         clear HO1169
         clear HO1172
         clear HO1178
         clear HO1181
         clear HO1187
         clear HO1190
         clear BK1163
         clear BK1174
         clear BK1183
         clear HB
         have HO1151 := n0_
         have HO1154 := n1_
         have HO1158 := n2_
         have HO1161 := n3_
         have HO1169 := n4_
         have HO1172 := n5_
         have HO1178 := n6_
         have HO1181 := n7_
         have HO1187 := n8_
         have HO1190 := n9_
         have BK1163 := n10_
         have BK1174 := n11_
         have BK1183 := n12_
         have HB := n13_
         clear n0_ n1_ n2_ n3_ n4_ n5_ n6_ n7_ n8_ n9_ n10_ n11_ n12_ n13_
         (try clear hb)
         (try clear hb2)
         (try clear hk)
         (try clear hi)
         refine hK.out _ _ ⟨(Zl BK1183.out 0).trans rfl, (Zl BK1183.out 1).trans rfl, (Zl BK1183.out 2).trans rfl, (Zl BK1163.out 0).trans rfl, (Zl BK1163.out 1).trans rfl, (Zl BK1163.out 2).trans rfl, (Zl BK1174.out 0).trans rfl, (Zl BK1174.out 1).trans rfl, (Zl BK1174.out 2).trans rfl⟩ (fun hHeld => ?_)
         clear hK K
         refine norm_ (a' := ?_) ?_ ?_
         rotate_left
         ·show Act.put _ (some 63) _ = _
          simp only [Act.put, List.setIfInBounds_toArray, List.set_cons_zero, List.set_cons_succ, Yi, Yj]
          rfl
         refine pure_ (i := 16) (N := some 64) (v := ?_) (a' := ?_) #[true, true, true, true, true, true, true, true, true, true, true, true, true, true, true, true, true, false, false] rfl rfl (any_of HT_.out (by kernel_rfl)) (fun _ _ _ h => h) (Or.inl ⟨by rfl, ?_⟩) ?_ ?_
         rotate_left
         ·intro w'
          go_simp
          with_reducible rfl
         rotate_left
         ·simp only [Act.put, List.setIfInBounds_toArray, List.set_cons_zero, List.set_cons_succ, Yi, Yj]
          rfl
         refine pure_ (i := 17) (N := some 65) (v := ?_) (a' := ?_) #[true, true, true, true, true, true, true, true, true, true, true, true, true, true, true, true, true, true, false] rfl rfl (any_of HT_.out (by kernel_rfl)) (fun _ _ _ h => h) (Or.inl ⟨by rfl, ?_⟩) ?_ ?_
         rotate_left
         ·intro w'
          go_simp
          with_reducible rfl
         rotate_left
         ·simp only [Act.put, List.setIfInBounds_toArray, List.set_cons_zero, List.set_cons_succ, Yi, Yj]
          rfl
         refine pure_ (i := 18) (N := some 0) (v := ?_) (a' := ?_) #[true, true, true, true, true, true, true, true, true, true, true, true, true, true, true, true, true, true, true] rfl rfl (any_of HT_.out (by kernel_rfl)) (fun _ _ _ h => h) (Or.inl ⟨by rfl, ?_⟩) ?_ ?_
         rotate_left
         ·intro w'
          go_simp
          with_reducible rfl
         rotate_left
         ·simp only [Act.put, List.setIfInBounds_toArray, List.set_cons_zero, List.set_cons_succ, Yi, Yj]
          rfl
         refine done_ (done_of HT_.out (by kernel_rfl)) ?_
         try go_wp2
         go_ret
         exact ⟨by first | rfl | (simp [Zp, Zo] <;> rfl) | (simp [*, Zp, Zo] <;> rfl), by repeat (first | (with_reducible first | exact HB.out | apply Zb | apply Za | apply Zc | refine Zd ?_ GE1163.out | refine Zd ?_ GE1174.out | refine Zd ?_ GE1183.out) | exact HB.out)⟩
       ·replace c14 := Bool.eq_false_iff.mpr c14
        subst c14
        have H1 : (none) = some r := by rw [if_neg (show ¬ (false = true) by decide)] at H; exact H
        clear H
        have H := H1
        clear H1
        exact absurd H (by simp)
      ·replace c12 := Bool.eq_false_iff.mpr c12
       subst c12
       have H1 : (none) = some r := by rw [if_neg (show ¬ (false = true) by decide)] at H; exact H
       clear H
       have H := H1
       clear H1
       exact absurd H (by simp)
     ·rw [if_neg c9] at H
      exact absurd H (by simp)
    ·rw [if_neg c8] at H
     exact absurd H (by simp)
   ·rw [if_neg c7] at H
    exact absurd H (by simp)
  ·rw [if_neg c6] at H
   exact absurd H (by simp)
 ·rw [if_neg c5] at H
  exact absurd H (by simp)
def sibyllaw02_RatioBack.j0 : Nat → ByteArray → Option (Bool)
 | 0, _ => none
 | k + 1, x1 => (ratio_Read.f k x1).bind fun bt1474 => (if bt1474.2.2.2 = 0 then ((ratio_Text.f k bt1474.1 bt1474.2.1 bt1474.2.2.1).bind fun bt1483 => ((ratio_Read.f k bt1483.1).bind fun bt1485 => (if bt1483.2 = 0 then (if bt1485.2.2.2 = 0 then ((ratio_Same.f k bt1474.1 bt1474.2.1 bt1474.2.2.1 bt1485.1 bt1485.2.1 bt1485.2.2.1).bind fun t1494 => (some t1494)) else (none)) else (none)))) else ((sibylref02_Zero.f bt1474.1 bt1474.2.1 bt1474.2.2.1).bind fun t1495 => (some t1495)))
def sibyllaw02_RatioBack.f (k : Nat) (a0_0 : Bool) (l0_1 : List Int) (l0_2 : List Int) (a1 : ByteArray) : Option (Bool) := (sibyllaw02_wakes.f k).bind fun t1439 => (if t1439 = true then ((sibyllaw02_own.f a0_0 l0_1 l0_2).bind fun bt1440 => ((ratio_Text.f k bt1440.1 bt1440.2.1 bt1440.2.2).bind fun bt1447 => ((sibyllaw02_own.f a0_0 l0_1 l0_2).bind fun bt1449 => ((ratio_Form.f k bt1449.1 bt1449.2.1 bt1449.2.2).bind fun t1456 => (if ((bt1447.2 == 0) != t1456) = true then (none) else (if bt1447.2 = 0 then ((ratio_Read.f k bt1447.1).bind fun bt1457 => (if bt1457.2.2.2 = 0 then ((sibyllaw02_own.f a0_0 l0_1 l0_2).bind fun bt1466 => ((ratio_Same.f k bt1457.1 bt1457.2.1 bt1457.2.2.1 bt1466.1 bt1466.2.1 bt1466.2.2).bind fun t1473 => (if t1473 = true then (sibyllaw02_RatioBack.j0 k a1) else (none)))) else (none))) else (sibyllaw02_RatioBack.j0 k a1))))))) else (none))
def sibyllaw02_RatioBack.T8 : Bool × List (List Nat × List Nat) := (true, [([], []), ([0], [0]), ([1], [1]), ([2], [2]), ([2], [2]), ([4, 2, 2], [2, 4]), ([3, 5, 5, 2], [2, 3, 5]), ([6, 2], [2, 6]), ([2, 7], [2, 7])])
def sibyllaw02_RatioBack.B8 : List Nat := [0, 1, 3, 7, 7, 23, 63, 127, 255]
theorem sibyllaw02_RatioBack.tab8 : rtab .any (opsOf Try.f14 8) = sibyllaw02_RatioBack.T8 := by kernel_rfl
theorem sibyllaw02_RatioBack.bits8 : waitsOk sibyllaw02_RatioBack.T8.2 sibyllaw02_RatioBack.B8 = true := by kernel_rfl
set_option maxHeartbeats 8000000 in
set_option maxRecDepth 100000 in
theorem sibyllaw02_RatioBack.calls (k : Nat) (a0_0 : Bool) (A0_1 : Option Addr) (c0_1 : Nat) (l0_1 : List Int) (A0_2 : Option Addr) (c0_2 : Nat) (l0_2 : List Int) (a1 : ByteArray) (r : Bool) (w : World) (hr0_1 : Kd.C (Kd.int .u32) w A0_1 l0_1.length l0_1) (hc0_1 : l0_1.length ≤ c0_1) (hr0_2 : Kd.C (Kd.int .u32) w A0_2 l0_2.length l0_2) (hc0_2 : l0_2.length ≤ c0_2) (h : sibyllaw02_RatioBack.f k a0_0 l0_1 l0_2 a1 = some r) :
  Calls Try.prog 14 #[.agg #[.bool a0_0, .slice A0_1 l0_1.length c0_1, .slice A0_2 l0_2.length c0_2], .string a1] w fun e w' => e = .returned (.bool r) ∧ Below w.heap.size w w' := by
 have hu50 := Try.underlying50
 have HR0_1 := Yt.mk hr0_1
 have HC0_1 := Yt.mk hc0_1
 clear hr0_1 hc0_1
 have HR0_2 := Yt.mk hr0_2
 have HC0_2 := Yt.mk hc0_2
 clear hr0_2 hc0_2
 have HB := Yt.mk (Below.refl w.heap.size w)
 have H : ((sibyllaw02_wakes.f k).bind fun t1439 => (if t1439 = true then ((sibyllaw02_own.f a0_0 l0_1 l0_2).bind fun bt1440 => ((ratio_Text.f k bt1440.1 bt1440.2.1 bt1440.2.2).bind fun bt1447 => ((sibyllaw02_own.f a0_0 l0_1 l0_2).bind fun bt1449 => ((ratio_Form.f k bt1449.1 bt1449.2.1 bt1449.2.2).bind fun t1456 => (if ((bt1447.2 == 0) != t1456) = true then (none) else (if bt1447.2 = 0 then ((ratio_Read.f k bt1447.1).bind fun bt1457 => (if bt1457.2.2.2 = 0 then ((sibyllaw02_own.f a0_0 l0_1 l0_2).bind fun bt1466 => ((ratio_Same.f k bt1457.1 bt1457.2.1 bt1457.2.2.1 bt1466.1 bt1466.2.1 bt1466.2.2).bind fun t1473 => (if t1473 = true then (sibyllaw02_RatioBack.j0 k a1) else (none)))) else (none))) else (sibyllaw02_RatioBack.j0 k a1))))))) else (none))) = some r := h
 clear h
 replace H := Option.bind_eq_some_iff.mp H
 obtain ⟨t1439, A30, H⟩ := H
 try dsimp only at H
 have A3 := Yt.mk A30
 clear A30
 by_cases c4 : t1439 = true
 ·subst c4
  have H1 : ((sibyllaw02_own.f a0_0 l0_1 l0_2).bind fun bt1440 => ((ratio_Text.f k bt1440.1 bt1440.2.1 bt1440.2.2).bind fun bt1447 => ((sibyllaw02_own.f a0_0 l0_1 l0_2).bind fun bt1449 => ((ratio_Form.f k bt1449.1 bt1449.2.1 bt1449.2.2).bind fun t1456 => (if ((bt1447.2 == 0) != t1456) = true then (none) else (if bt1447.2 = 0 then ((ratio_Read.f k bt1447.1).bind fun bt1457 => (if bt1457.2.2.2 = 0 then ((sibyllaw02_own.f a0_0 l0_1 l0_2).bind fun bt1466 => ((ratio_Same.f k bt1457.1 bt1457.2.1 bt1457.2.2.1 bt1466.1 bt1466.2.1 bt1466.2.2).bind fun t1473 => (if t1473 = true then (sibyllaw02_RatioBack.j0 k a1) else (none)))) else (none))) else (sibyllaw02_RatioBack.j0 k a1))))))) = some r := by rw [if_pos rfl] at H; exact H
  clear H
  have H := H1
  clear H1
  replace H := Option.bind_eq_some_iff.mp H
  obtain ⟨⟨t1440, t1441, t1444⟩, A50, H⟩ := H
  try dsimp only at H
  have A5 := Yt.mk A50
  clear A50
  replace H := Option.bind_eq_some_iff.mp H
  obtain ⟨⟨t1447, t1448⟩, A60, H⟩ := H
  try dsimp only at H
  have A6 := Yt.mk A60
  clear A60
  replace H := Option.bind_eq_some_iff.mp H
  obtain ⟨⟨t1449, t1450, t1453⟩, A70, H⟩ := H
  try dsimp only at H
  have A7 := Yt.mk A70
  clear A70
  replace H := Option.bind_eq_some_iff.mp H
  obtain ⟨t1456, A80, H⟩ := H
  try dsimp only at H
  have A8 := Yt.mk A80
  clear A80
  by_cases c9 : ((t1448 == 0) != t1456) = true
  ·rw [if_pos c9] at H
   exact absurd H (by simp)
  ·rw [if_neg c9] at H
   have c9b0 : ((t1448 == 0) != t1456) = false := by simpa using c9
   (try (have c9b1 : decide ((t1448 == 0) = t1456) = true := by simpa using c9))
   (try (have c9b2 : ((t1448 == 0) == t1456) = true := by simpa using c9))
   clear c9
   have HC10 := Yt.mk H
   clear H
   go_enter Try.func14, Try.ntmps14
   go_upto_if 30 with (first | ((with_reducible refine Yk (N := 2) rfl ?_); refine Yo ?hg (N := 2) ?hd (cs := #[.bool a0_0, .slice A0_1 l0_1.length c0_1, .slice A0_2 l0_2.length c0_2]) (t := 50) ?hr ?_; (case hd => rfl); (case hg => rfl); (case hr => first | (go_simp; done) | (go_simp; rfl)); intro gb1438 hg w11 hbox hb; have n0_ := Yt.mk (Zm (by repeat (first | (with_reducible first | exact HB.out | apply Zb | apply Za | apply Zc) | exact HB.out)) hb); have n1_ := Yt.mk (hbox); have n2_ := Yt.mk ((by rw [hg]; exact (Zk (by repeat (first | (with_reducible first | exact HB.out | apply Zb | apply Za | apply Zc) | exact HB.out))) : w.heap.size ≤ gb1438)); have n3_ := Yt.mk ((by rw [hg]; exact (Zk (by repeat (first | (with_reducible first | exact HB.out | apply Zb | apply Za | apply Zc) | exact HB.out))) : w.heap.size ≤ gb1438)); clear HB; have HB := n0_; have BK1438 := n1_; have GW1438 := n2_; have GE1438 := n3_; clear n0_ n1_ n2_ n3_; clear hb hbox hg) | ((with_reducible refine Zr (f := 47) rfl ?_); refine Yg (some 15) rfl rfl Try.func47 (by kernel_rfl) rfl #[] rfl (by (try simp only [List.map_toArray, List.map_cons, List.map_nil]); first | done | rfl | (simp only [List.length_drop, List.length_take]; rfl)) ?_; (with_reducible refine (sibyllaw02_wakes.calls k  true _ A3.out).mono ?_); rintro e w12 ⟨rfl, hb⟩; refine ⟨_, rfl, ?_⟩; have n0_ := Yt.mk (Zq (g := gb1438) (o := .cells #[.bool a0_0, .slice A0_1 l0_1.length c0_1, .slice A0_2 l0_2.length c0_2] 50 (0, 0)) (by (with_reducible repeat (first | refine Zg ?_ _ | refine Zi ?_ | refine Zh ?_ _)); exact BK1438.out) hb); have n1_ := Yt.mk (Zm (by repeat (first | (with_reducible first | exact HB.out | apply Zb | apply Za | apply Zc | refine Zd ?_ GE1438.out) | exact HB.out)) hb); clear BK1438; clear HB; have BK1438 := n0_; have HB := n1_; clear n0_ n1_; (try clear hb); (try clear hb2); (try clear hk); (try clear hi); have hcz13_0 : w12.cell? ⟨gb1438, 0, none⟩ = some (.bool a0_0) := (Zl BK1438.out 0).trans rfl; have hcz13_1 : w12.cell? ⟨gb1438, 1, none⟩ = some (.slice A0_1 l0_1.length c0_1) := (Zl BK1438.out 1).trans rfl; have hcz13_2 : w12.cell? ⟨gb1438, 2, none⟩ = some (.slice A0_2 l0_2.length c0_2) := (Zl BK1438.out 2).trans rfl; have hfz13_0 := Zn BK1438.out 0; have hfz13_1 := Zn BK1438.out 1; have hfz13_2 := Zn BK1438.out 2) | ((with_reducible refine Zr (f := 51) rfl ?_); refine Yg (some 19) rfl rfl Try.func51 (by kernel_rfl) rfl #[.agg #[.bool a0_0, .slice A0_1 l0_1.length c0_1, .slice A0_2 l0_2.length c0_2]] rfl (by (try simp only [List.map_toArray, List.map_cons, List.map_nil]); first | done | rfl | (simp only [List.length_drop, List.length_take]; rfl)) ?_; (with_reducible refine (sibyllaw02_own.calls a0_0 _ _ l0_1 _ _ l0_2 t1440 t1441 t1444 _ ?side1 ?side2 ?side3 ?side4 A5.out).mono ?_); (case side1 => repeat (first | exact (Kd.Ys HR0_1.out HB.out) | (with_reducible refine Kd.Zu ?_ _) | (with_reducible refine Kd.Zt ?_ _) | (with_reducible refine Kd.Yc ?_))); (case side2 => exact HC0_1.out); (case side3 => repeat (first | exact (Kd.Ys HR0_2.out HB.out) | (with_reducible refine Kd.Zu ?_ _) | (with_reducible refine Kd.Zt ?_ _) | (with_reducible refine Kd.Yc ?_))); (case side4 => exact HC0_2.out); rintro e w14 ⟨v1442, v1445, rfl, ho0, ho1, hb⟩; refine ⟨_, rfl, ?_⟩; have n0_ := Yt.mk (Kd.Yb ho0 (Zk (by repeat (first | (with_reducible first | exact HB.out | apply Zb | apply Za | apply Zc | refine Zd ?_ GE1438.out) | exact HB.out)))); have n1_ := Yt.mk (Kd.Yb ho1 (Zk (by repeat (first | (with_reducible first | exact HB.out | apply Zb | apply Za | apply Zc | refine Zd ?_ GE1438.out) | exact HB.out)))); have n2_ := Yt.mk (Zq (g := gb1438) (o := .cells #[.bool a0_0, .slice A0_1 l0_1.length c0_1, .slice A0_2 l0_2.length c0_2] 50 (0, 0)) (by (with_reducible repeat (first | refine Zg ?_ _ | refine Zi ?_ | refine Zh ?_ _)); exact BK1438.out) hb); have n3_ := Yt.mk (Zm (by repeat (first | (with_reducible first | exact HB.out | apply Zb | apply Za | apply Zc | refine Zd ?_ GE1438.out) | exact HB.out)) hb); clear BK1438; clear HB; have HO1443 := n0_; have HO1446 := n1_; have BK1438 := n2_; have HB := n3_; clear n0_ n1_ n2_ n3_; (try clear hb); (try clear hb2); (try clear hk); (try clear hi); (try clear ho0); (try clear ho1); obtain ⟨Ao15, co15, eo15⟩ := Kd.Zx HO1443.out; subst eo15; obtain ⟨Ao16, co16, eo16⟩ := Kd.Zx HO1446.out; subst eo16) | ((with_reducible refine Zr (f := 57) rfl ?_); refine Yg (some 20) rfl rfl Try.func57 (by kernel_rfl) rfl #[.agg #[.bool t1440, .slice Ao15 t1441.length co15, .slice Ao16 t1444.length co16]] rfl (by (try simp only [List.map_toArray, List.map_cons, List.map_nil]); first | done | rfl | (simp only [List.length_drop, List.length_take]; rfl)) ?_; (with_reducible refine (ratio_Text.calls k t1440 _ _ t1441 _ _ t1444 t1447 t1448 _ ?side1 ?side2 ?side3 ?side4 A6.out).mono ?_); (case side1 => repeat (first | exact (Kd.Zs HO1443.out).2.2 | (with_reducible refine Kd.Zu ?_ _) | (with_reducible refine Kd.Zt ?_ _) | (with_reducible refine Kd.Yc ?_))); (case side2 => exact (Kd.Zs HO1443.out).2.1); (case side3 => repeat (first | exact (Kd.Zs HO1446.out).2.2 | (with_reducible refine Kd.Zu ?_ _) | (with_reducible refine Kd.Zt ?_ _) | (with_reducible refine Kd.Yc ?_))); (case side4 => exact (Kd.Zs HO1446.out).2.1); rintro e w17 ⟨rfl, hb⟩; refine ⟨_, rfl, ?_⟩; have n0_ := Yt.mk (Kd.Yd (by (with_reducible repeat (first | apply Kd.Zf | apply Kd.Ze | apply Kd.Zj)); exact HO1443.out) hb); have n1_ := Yt.mk (Kd.Yd (by (with_reducible repeat (first | apply Kd.Zf | apply Kd.Ze | apply Kd.Zj)); exact HO1446.out) hb); have n2_ := Yt.mk (Zq (g := gb1438) (o := .cells #[.bool a0_0, .slice A0_1 l0_1.length c0_1, .slice A0_2 l0_2.length c0_2] 50 (0, 0)) (by (with_reducible repeat (first | refine Zg ?_ _ | refine Zi ?_ | refine Zh ?_ _)); exact BK1438.out) hb); have n3_ := Yt.mk (Zm (by repeat (first | (with_reducible first | exact HB.out | apply Zb | apply Za | apply Zc | refine Zd ?_ GE1438.out) | exact HB.out)) hb); clear HO1443; clear HO1446; clear BK1438; clear HB; have HO1443 := n0_; have HO1446 := n1_; have BK1438 := n2_; have HB := n3_; clear n0_ n1_ n2_ n3_; (try clear hb); (try clear hb2); (try clear hk); (try clear hi); have hcz18_0 : w17.cell? ⟨gb1438, 0, none⟩ = some (.bool a0_0) := (Zl BK1438.out 0).trans rfl; have hcz18_1 : w17.cell? ⟨gb1438, 1, none⟩ = some (.slice A0_1 l0_1.length c0_1) := (Zl BK1438.out 1).trans rfl; have hcz18_2 : w17.cell? ⟨gb1438, 2, none⟩ = some (.slice A0_2 l0_2.length c0_2) := (Zl BK1438.out 2).trans rfl; have hfz18_0 := Zn BK1438.out 0; have hfz18_1 := Zn BK1438.out 1; have hfz18_2 := Zn BK1438.out 2) | ((with_reducible refine Zr (f := 51) rfl ?_); refine Yg (some 26) rfl rfl Try.func51 (by kernel_rfl) rfl #[.agg #[.bool a0_0, .slice A0_1 l0_1.length c0_1, .slice A0_2 l0_2.length c0_2]] rfl (by (try simp only [List.map_toArray, List.map_cons, List.map_nil]); first | done | rfl | (simp only [List.length_drop, List.length_take]; rfl)) ?_; (with_reducible refine (sibyllaw02_own.calls a0_0 _ _ l0_1 _ _ l0_2 t1449 t1450 t1453 _ ?side1 ?side2 ?side3 ?side4 A7.out).mono ?_); (case side1 => repeat (first | exact (Kd.Ys HR0_1.out HB.out) | (with_reducible refine Kd.Zu ?_ _) | (with_reducible refine Kd.Zt ?_ _) | (with_reducible refine Kd.Yc ?_))); (case side2 => exact HC0_1.out); (case side3 => repeat (first | exact (Kd.Ys HR0_2.out HB.out) | (with_reducible refine Kd.Zu ?_ _) | (with_reducible refine Kd.Zt ?_ _) | (with_reducible refine Kd.Yc ?_))); (case side4 => exact HC0_2.out); rintro e w19 ⟨v1451, v1454, rfl, ho0, ho1, hb⟩; refine ⟨_, rfl, ?_⟩; have n0_ := Yt.mk (Kd.Zv (Kd.Yl (Kd.Yl (Kd.R_old (by (with_reducible repeat (first | apply Kd.Zf | apply Kd.Ze | apply Kd.Zj)); exact HO1443.out) hb) (Kd.Zw ho0)) (Kd.Zw ho1)) (fun _ h_ => h_.1)); have n1_ := Yt.mk (Kd.Zv (Kd.Yl (Kd.Yl (Kd.R_old (by (with_reducible repeat (first | apply Kd.Zf | apply Kd.Ze | apply Kd.Zj)); exact HO1446.out) hb) (Kd.Zw ho0)) (Kd.Zw ho1)) (fun _ h_ => h_.1)); have n2_ := Yt.mk (Kd.Yb (Kd.Ya (Kd.Ya ho0 (Kd.R_lt (by (with_reducible repeat (first | apply Kd.Zf | apply Kd.Ze | apply Kd.Zj)); exact HO1443.out))) (Kd.R_lt (by (with_reducible repeat (first | apply Kd.Zf | apply Kd.Ze | apply Kd.Zj)); exact HO1446.out))) (Zk (by repeat (first | (with_reducible first | exact HB.out | apply Zb | apply Za | apply Zc | refine Zd ?_ GE1438.out) | exact HB.out)))); have n3_ := Yt.mk (Kd.Yb (Kd.Ya (Kd.Ya ho1 (Kd.R_lt (by (with_reducible repeat (first | apply Kd.Zf | apply Kd.Ze | apply Kd.Zj)); exact HO1443.out))) (Kd.R_lt (by (with_reducible repeat (first | apply Kd.Zf | apply Kd.Ze | apply Kd.Zj)); exact HO1446.out))) (Zk (by repeat (first | (with_reducible first | exact HB.out | apply Zb | apply Za | apply Zc | refine Zd ?_ GE1438.out) | exact HB.out)))); have n4_ := Yt.mk (Zq (g := gb1438) (o := .cells #[.bool a0_0, .slice A0_1 l0_1.length c0_1, .slice A0_2 l0_2.length c0_2] 50 (0, 0)) (by (with_reducible repeat (first | refine Zg ?_ _ | refine Zi ?_ | refine Zh ?_ _)); exact BK1438.out) hb); have n5_ := Yt.mk (Zm (by repeat (first | (with_reducible first | exact HB.out | apply Zb | apply Za | apply Zc | refine Zd ?_ GE1438.out) | exact HB.out)) hb); clear HO1443; clear HO1446; clear BK1438; clear HB; have HO1443 := n0_; have HO1446 := n1_; have HO1452 := n2_; have HO1455 := n3_; have BK1438 := n4_; have HB := n5_; clear n0_ n1_ n2_ n3_ n4_ n5_; (try clear hb); (try clear hb2); (try clear hk); (try clear hi); (try clear ho0); (try clear ho1); obtain ⟨Ao20, co20, eo20⟩ := Kd.Zx HO1452.out; subst eo20; obtain ⟨Ao21, co21, eo21⟩ := Kd.Zx HO1455.out; subst eo21) | ((with_reducible refine Zr (f := 50) rfl ?_); refine Yg (some 27) rfl rfl Try.func50 (by kernel_rfl) rfl #[.agg #[.bool t1449, .slice Ao20 t1450.length co20, .slice Ao21 t1453.length co21]] rfl (by (try simp only [List.map_toArray, List.map_cons, List.map_nil]); first | done | rfl | (simp only [List.length_drop, List.length_take]; rfl)) ?_; (with_reducible refine (ratio_Form.calls k t1449 _ _ t1450 _ _ t1453 t1456 _ ?side1 ?side2 ?side3 ?side4 A8.out).mono ?_); (case side1 => repeat (first | exact (Kd.Zs HO1452.out).2.2 | (with_reducible refine Kd.Zu ?_ _) | (with_reducible refine Kd.Zt ?_ _) | (with_reducible refine Kd.Yc ?_))); (case side2 => exact (Kd.Zs HO1452.out).2.1); (case side3 => repeat (first | exact (Kd.Zs HO1455.out).2.2 | (with_reducible refine Kd.Zu ?_ _) | (with_reducible refine Kd.Zt ?_ _) | (with_reducible refine Kd.Yc ?_))); (case side4 => exact (Kd.Zs HO1455.out).2.1); rintro e w22 ⟨rfl, hb⟩; refine ⟨_, rfl, ?_⟩; have n0_ := Yt.mk (Kd.Yd (by (with_reducible repeat (first | apply Kd.Zf | apply Kd.Ze | apply Kd.Zj)); exact HO1443.out) hb); have n1_ := Yt.mk (Kd.Yd (by (with_reducible repeat (first | apply Kd.Zf | apply Kd.Ze | apply Kd.Zj)); exact HO1446.out) hb); have n2_ := Yt.mk (Kd.Yd (by (with_reducible repeat (first | apply Kd.Zf | apply Kd.Ze | apply Kd.Zj)); exact HO1452.out) hb); have n3_ := Yt.mk (Kd.Yd (by (with_reducible repeat (first | apply Kd.Zf | apply Kd.Ze | apply Kd.Zj)); exact HO1455.out) hb); have n4_ := Yt.mk (Zq (g := gb1438) (o := .cells #[.bool a0_0, .slice A0_1 l0_1.length c0_1, .slice A0_2 l0_2.length c0_2] 50 (0, 0)) (by (with_reducible repeat (first | refine Zg ?_ _ | refine Zi ?_ | refine Zh ?_ _)); exact BK1438.out) hb); have n5_ := Yt.mk (Zm (by repeat (first | (with_reducible first | exact HB.out | apply Zb | apply Za | apply Zc | refine Zd ?_ GE1438.out) | exact HB.out)) hb); clear HO1443; clear HO1446; clear HO1452; clear HO1455; clear BK1438; clear HB; have HO1443 := n0_; have HO1446 := n1_; have HO1452 := n2_; have HO1455 := n3_; have BK1438 := n4_; have HB := n5_; clear n0_ n1_ n2_ n3_ n4_ n5_; (try clear hb); (try clear hb2); (try clear hk); (try clear hi)))
   (try simp only [Act.put, List.setIfInBounds_toArray, List.set_cons_zero, List.set_cons_succ])
   go_cut [] (fun wc => ∃ (kq : Nat), Yt (sibyllaw02_RatioBack.j0 kq a1 = some r) ∧ Yt (kq ≤ k) ∧ Yt (wc.heap[gb1438]? = some (.cells #[.bool a0_0, (.slice A0_1 l0_1.length c0_1), (.slice A0_2 l0_2.length c0_2)] 50 (0, 0))) ∧ Yt (Below w.heap.size w wc))
   case first =>
    have H := HC10.out
    clear HC10
    by_cases c23 : t1448 = 0
    ·rw [if_pos c23] at H
     have c23b0 : (t1448 == 0) = true := beq_iff_eq.mpr c23
     have c23b1 : (t1448 != 0) = false := bne_eq_false_iff_eq.mpr c23
     clear c23
     (first | rw [c23b0] | rw [c23b1] | (simp only [Yi, Yj]; rw [c23b0]) | skip)
     replace H := Option.bind_eq_some_iff.mp H
     obtain ⟨⟨t1457, t1458, t1461, t1464⟩, A240, H⟩ := H
     try dsimp only at H
     have A24 := Yt.mk A240
     clear A240
     by_cases c25 : t1464 = 0
     ·rw [if_pos c25] at H
      have c25b0 : (t1464 == 0) = true := beq_iff_eq.mpr c25
      have c25b1 : (t1464 != 0) = false := bne_eq_false_iff_eq.mpr c25
      clear c25
      replace H := Option.bind_eq_some_iff.mp H
      obtain ⟨⟨t1466, t1467, t1470⟩, A260, H⟩ := H
      try dsimp only at H
      have A26 := Yt.mk A260
      clear A260
      replace H := Option.bind_eq_some_iff.mp H
      obtain ⟨t1473, A270, H⟩ := H
      try dsimp only at H
      have A27 := Yt.mk A270
      clear A270
      by_cases c28 : t1473 = true
      ·subst c28
       have H1 : (sibyllaw02_RatioBack.j0 k a1) = some r := by rw [if_pos rfl] at H; exact H
       clear H
       have H := H1
       clear H1
       have H' := Yt.mk H
       clear H
       try go_wp2_with (first | ((with_reducible refine Zr (f := 59) rfl ?_); refine Yg (some 33) rfl rfl Try.func59 (by kernel_rfl) rfl #[.string t1447] rfl (by (try simp only [List.map_toArray, List.map_cons, List.map_nil]); first | done | rfl | (simp only [List.length_drop, List.length_take]; rfl)) ?_; (with_reducible refine (ratio_Read.calls k t1447 t1457 t1458 t1461 t1464 _ A24.out).mono ?_); rintro e w29 ⟨v1459, v1462, rfl, ho0, ho1, hb⟩; refine ⟨_, rfl, ?_⟩; have n0_ := Yt.mk (Kd.Zv (Kd.Yl (Kd.Yl (Kd.R_old (by (with_reducible repeat (first | apply Kd.Zf | apply Kd.Ze | apply Kd.Zj)); exact HO1443.out) hb) (Kd.Zw ho0)) (Kd.Zw ho1)) (fun _ h_ => h_.1)); have n1_ := Yt.mk (Kd.Zv (Kd.Yl (Kd.Yl (Kd.R_old (by (with_reducible repeat (first | apply Kd.Zf | apply Kd.Ze | apply Kd.Zj)); exact HO1446.out) hb) (Kd.Zw ho0)) (Kd.Zw ho1)) (fun _ h_ => h_.1)); have n2_ := Yt.mk (Kd.Zv (Kd.Yl (Kd.Yl (Kd.R_old (by (with_reducible repeat (first | apply Kd.Zf | apply Kd.Ze | apply Kd.Zj)); exact HO1452.out) hb) (Kd.Zw ho0)) (Kd.Zw ho1)) (fun _ h_ => h_.1)); have n3_ := Yt.mk (Kd.Zv (Kd.Yl (Kd.Yl (Kd.R_old (by (with_reducible repeat (first | apply Kd.Zf | apply Kd.Ze | apply Kd.Zj)); exact HO1455.out) hb) (Kd.Zw ho0)) (Kd.Zw ho1)) (fun _ h_ => h_.1)); have n4_ := Yt.mk (Kd.Yb (Kd.Ya (Kd.Ya (Kd.Ya (Kd.Ya ho0 (Kd.R_lt (by (with_reducible repeat (first | apply Kd.Zf | apply Kd.Ze | apply Kd.Zj)); exact HO1443.out))) (Kd.R_lt (by (with_reducible repeat (first | apply Kd.Zf | apply Kd.Ze | apply Kd.Zj)); exact HO1446.out))) (Kd.R_lt (by (with_reducible repeat (first | apply Kd.Zf | apply Kd.Ze | apply Kd.Zj)); exact HO1452.out))) (Kd.R_lt (by (with_reducible repeat (first | apply Kd.Zf | apply Kd.Ze | apply Kd.Zj)); exact HO1455.out))) (Zk (by repeat (first | (with_reducible first | exact HB.out | apply Zb | apply Za | apply Zc | refine Zd ?_ GE1438.out) | exact HB.out)))); have n5_ := Yt.mk (Kd.Yb (Kd.Ya (Kd.Ya (Kd.Ya (Kd.Ya ho1 (Kd.R_lt (by (with_reducible repeat (first | apply Kd.Zf | apply Kd.Ze | apply Kd.Zj)); exact HO1443.out))) (Kd.R_lt (by (with_reducible repeat (first | apply Kd.Zf | apply Kd.Ze | apply Kd.Zj)); exact HO1446.out))) (Kd.R_lt (by (with_reducible repeat (first | apply Kd.Zf | apply Kd.Ze | apply Kd.Zj)); exact HO1452.out))) (Kd.R_lt (by (with_reducible repeat (first | apply Kd.Zf | apply Kd.Ze | apply Kd.Zj)); exact HO1455.out))) (Zk (by repeat (first | (with_reducible first | exact HB.out | apply Zb | apply Za | apply Zc | refine Zd ?_ GE1438.out) | exact HB.out)))); have n6_ := Yt.mk (Zq (g := gb1438) (o := .cells #[.bool a0_0, .slice A0_1 l0_1.length c0_1, .slice A0_2 l0_2.length c0_2] 50 (0, 0)) (by (with_reducible repeat (first | refine Zg ?_ _ | refine Zi ?_ | refine Zh ?_ _)); exact BK1438.out) hb); have n7_ := Yt.mk (Zm (by repeat (first | (with_reducible first | exact HB.out | apply Zb | apply Za | apply Zc | refine Zd ?_ GE1438.out) | exact HB.out)) hb); clear HO1443; clear HO1446; clear HO1452; clear HO1455; clear BK1438; clear HB; have HO1443 := n0_; have HO1446 := n1_; have HO1452 := n2_; have HO1455 := n3_; have HO1460 := n4_; have HO1463 := n5_; have BK1438 := n6_; have HB := n7_; clear n0_ n1_ n2_ n3_ n4_ n5_ n6_ n7_; (try clear hb); (try clear hb2); (try clear hk); (try clear hi); (try clear ho0); (try clear ho1)) | ((with_reducible refine Yk (N := 7) rfl ?_); refine Yo ?hg (N := 7) ?hd (cs := #[.bool false, .slice none 0 0, .slice none 0 0]) (t := 50) ?hr ?_; (case hd => rfl); (case hg => rfl); (case hr => first | (go_simp; done) | (go_simp; rfl)); intro gb1465 hg w30 hbox hb; have n0_ := Yt.mk (Kd.Yd (by (with_reducible repeat (first | apply Kd.Zf | apply Kd.Ze | apply Kd.Zj)); exact HO1443.out) hb); have n1_ := Yt.mk (Kd.Yd (by (with_reducible repeat (first | apply Kd.Zf | apply Kd.Ze | apply Kd.Zj)); exact HO1446.out) hb); have n2_ := Yt.mk (Kd.Yd (by (with_reducible repeat (first | apply Kd.Zf | apply Kd.Ze | apply Kd.Zj)); exact HO1452.out) hb); have n3_ := Yt.mk (Kd.Yd (by (with_reducible repeat (first | apply Kd.Zf | apply Kd.Ze | apply Kd.Zj)); exact HO1455.out) hb); have n4_ := Yt.mk (Kd.Yd (by (with_reducible repeat (first | apply Kd.Zf | apply Kd.Ze | apply Kd.Zj)); exact HO1460.out) hb); have n5_ := Yt.mk (Kd.Yd (by (with_reducible repeat (first | apply Kd.Zf | apply Kd.Ze | apply Kd.Zj)); exact HO1463.out) hb); have n6_ := Yt.mk (Zq (g := gb1438) (o := .cells #[.bool a0_0, .slice A0_1 l0_1.length c0_1, .slice A0_2 l0_2.length c0_2] 50 (0, 0)) (by (with_reducible repeat (first | refine Zg ?_ _ | refine Zi ?_ | refine Zh ?_ _)); exact BK1438.out) hb); have n7_ := Yt.mk (Zm (by repeat (first | (with_reducible first | exact HB.out | apply Zb | apply Za | apply Zc | refine Zd ?_ GE1438.out) | exact HB.out)) hb); have n8_ := Yt.mk (hbox); have n9_ := Yt.mk ((by rw [hg]; exact (Zk (by repeat (first | (with_reducible first | exact HB.out | apply Zb | apply Za | apply Zc | refine Zd ?_ GE1438.out) | exact HB.out))) : w.heap.size ≤ gb1465)); have n10_ := Yt.mk ((by rw [hg]; exact (Zk (by repeat (first | (with_reducible first | exact HB.out | apply Zb | apply Za | apply Zc | refine Zd ?_ GE1438.out) | exact HB.out))) : w.heap.size ≤ gb1465)); have n11_ := Yt.mk ((by rw [hg]; exact Nat.ne_of_lt (blk_lt (g := gb1438) (o := .cells #[.bool a0_0, .slice A0_1 l0_1.length c0_1, .slice A0_2 l0_2.length c0_2] 50 (0, 0)) (by (with_reducible repeat (first | refine Zg ?_ _ | refine Zi ?_ | refine Zh ?_ _)); exact BK1438.out)) : gb1438 ≠ gb1465)); have n12_ := Yt.mk ((by rw [hg]; exact Nat.ne_of_gt (blk_lt (g := gb1438) (o := .cells #[.bool a0_0, .slice A0_1 l0_1.length c0_1, .slice A0_2 l0_2.length c0_2] 50 (0, 0)) (by (with_reducible repeat (first | refine Zg ?_ _ | refine Zi ?_ | refine Zh ?_ _)); exact BK1438.out)) : gb1465 ≠ gb1438)); clear HO1443; clear HO1446; clear HO1452; clear HO1455; clear HO1460; clear HO1463; clear BK1438; clear HB; have HO1443 := n0_; have HO1446 := n1_; have HO1452 := n2_; have HO1455 := n3_; have HO1460 := n4_; have HO1463 := n5_; have BK1438 := n6_; have HB := n7_; have BK1465 := n8_; have GW1465 := n9_; have GE1465 := n10_; have NB1438_1465 := n11_; have NB1465_1438 := n12_; clear n0_ n1_ n2_ n3_ n4_ n5_ n6_ n7_ n8_ n9_ n10_ n11_ n12_; clear hb hbox hg; have hnb31 := NB1465_1438.out; have hnc31 := NB1438_1465.out; have hcz32_0 : w30.cell? ⟨gb1465, 0, none⟩ = some (.bool false) := (Zl BK1465.out 0).trans rfl; have hcz32_1 : w30.cell? ⟨gb1465, 1, none⟩ = some (.slice none 0 0) := (Zl BK1465.out 1).trans rfl; have hcz32_2 : w30.cell? ⟨gb1465, 2, none⟩ = some (.slice none 0 0) := (Zl BK1465.out 2).trans rfl; have hfz32_0 := Zn BK1465.out 0; have hfz32_1 := Zn BK1465.out 1; have hfz32_2 := Zn BK1465.out 2; obtain ⟨Ao33, co33, eo33⟩ := Kd.Zx HO1460.out; subst eo33; obtain ⟨Ao34, co34, eo34⟩ := Kd.Zx HO1463.out; subst eo34))
       have n0_ : Yt (Kd.R (Kd.int .u32) 47 (((w30.setCell ⟨gb1465, 0, none⟩ (.bool t1457)).setCell ⟨gb1465, 1, none⟩ (.slice Ao33 t1458.length co33)).setCell ⟨gb1465, 2, none⟩ (.slice Ao34 t1461.length co34)) w.heap.size (fun k_ => some k_ ≠ (.slice Ao16 t1444.length co16 : Value).ownBlock ∧ some k_ ≠ (.slice Ao20 t1450.length co20 : Value).ownBlock ∧ some k_ ≠ (.slice Ao21 t1453.length co21 : Value).ownBlock ∧ some k_ ≠ (.slice Ao33 t1458.length co33 : Value).ownBlock ∧ some k_ ≠ (.slice Ao34 t1461.length co34 : Value).ownBlock) (.slice Ao15 t1441.length co15) t1441) := ⟨by (with_reducible repeat (first | apply Kd.Zf | apply Kd.Ze | apply Kd.Zj)); exact Kd.Zv (Kd.Yh (p := ⟨gb1465, 2, none⟩) (Kd.Yh (p := ⟨gb1465, 1, none⟩) (Kd.Yh (p := ⟨gb1465, 0, none⟩) (Kd.Yq HO1443.out BK1465.out (by decide)) (fun _ hk => hk.2) (.bool t1457)) (fun _ hk => hk.2) (.slice Ao33 t1458.length co33)) (fun _ hk => hk.2) (.slice Ao34 t1461.length co34)) (fun _ hk => ⟨hk.1.1.1.1.1, ⟨hk.1.1.1.1.2, ⟨hk.1.1.1.2, ⟨hk.1.1.2, hk.1.2⟩⟩⟩⟩)⟩
       have n1_ : Yt (Kd.R (Kd.int .u32) 47 (((w30.setCell ⟨gb1465, 0, none⟩ (.bool t1457)).setCell ⟨gb1465, 1, none⟩ (.slice Ao33 t1458.length co33)).setCell ⟨gb1465, 2, none⟩ (.slice Ao34 t1461.length co34)) w.heap.size (fun k_ => some k_ ≠ (.slice Ao15 t1441.length co15 : Value).ownBlock ∧ some k_ ≠ (.slice Ao20 t1450.length co20 : Value).ownBlock ∧ some k_ ≠ (.slice Ao21 t1453.length co21 : Value).ownBlock ∧ some k_ ≠ (.slice Ao33 t1458.length co33 : Value).ownBlock ∧ some k_ ≠ (.slice Ao34 t1461.length co34 : Value).ownBlock) (.slice Ao16 t1444.length co16) t1444) := ⟨by (with_reducible repeat (first | apply Kd.Zf | apply Kd.Ze | apply Kd.Zj)); exact Kd.Zv (Kd.Yh (p := ⟨gb1465, 2, none⟩) (Kd.Yh (p := ⟨gb1465, 1, none⟩) (Kd.Yh (p := ⟨gb1465, 0, none⟩) (Kd.Yq HO1446.out BK1465.out (by decide)) (fun _ hk => hk.2) (.bool t1457)) (fun _ hk => hk.2) (.slice Ao33 t1458.length co33)) (fun _ hk => hk.2) (.slice Ao34 t1461.length co34)) (fun _ hk => ⟨hk.1.1.1.1.1, ⟨hk.1.1.1.1.2, ⟨hk.1.1.1.2, ⟨hk.1.1.2, hk.1.2⟩⟩⟩⟩)⟩
       have n2_ : Yt (Kd.R (Kd.int .u32) 47 (((w30.setCell ⟨gb1465, 0, none⟩ (.bool t1457)).setCell ⟨gb1465, 1, none⟩ (.slice Ao33 t1458.length co33)).setCell ⟨gb1465, 2, none⟩ (.slice Ao34 t1461.length co34)) w.heap.size (fun k_ => some k_ ≠ (.slice Ao15 t1441.length co15 : Value).ownBlock ∧ some k_ ≠ (.slice Ao16 t1444.length co16 : Value).ownBlock ∧ some k_ ≠ (.slice Ao21 t1453.length co21 : Value).ownBlock ∧ some k_ ≠ (.slice Ao33 t1458.length co33 : Value).ownBlock ∧ some k_ ≠ (.slice Ao34 t1461.length co34 : Value).ownBlock) (.slice Ao20 t1450.length co20) t1450) := ⟨by (with_reducible repeat (first | apply Kd.Zf | apply Kd.Ze | apply Kd.Zj)); exact Kd.Zv (Kd.Yh (p := ⟨gb1465, 2, none⟩) (Kd.Yh (p := ⟨gb1465, 1, none⟩) (Kd.Yh (p := ⟨gb1465, 0, none⟩) (Kd.Yq HO1452.out BK1465.out (by decide)) (fun _ hk => hk.2) (.bool t1457)) (fun _ hk => hk.2) (.slice Ao33 t1458.length co33)) (fun _ hk => hk.2) (.slice Ao34 t1461.length co34)) (fun _ hk => ⟨hk.1.1.1.1.2, ⟨hk.1.1.1.2, ⟨hk.1.1.1.1.1, ⟨hk.1.1.2, hk.1.2⟩⟩⟩⟩)⟩
       have n3_ : Yt (Kd.R (Kd.int .u32) 47 (((w30.setCell ⟨gb1465, 0, none⟩ (.bool t1457)).setCell ⟨gb1465, 1, none⟩ (.slice Ao33 t1458.length co33)).setCell ⟨gb1465, 2, none⟩ (.slice Ao34 t1461.length co34)) w.heap.size (fun k_ => some k_ ≠ (.slice Ao15 t1441.length co15 : Value).ownBlock ∧ some k_ ≠ (.slice Ao16 t1444.length co16 : Value).ownBlock ∧ some k_ ≠ (.slice Ao20 t1450.length co20 : Value).ownBlock ∧ some k_ ≠ (.slice Ao33 t1458.length co33 : Value).ownBlock ∧ some k_ ≠ (.slice Ao34 t1461.length co34 : Value).ownBlock) (.slice Ao21 t1453.length co21) t1453) := ⟨by (with_reducible repeat (first | apply Kd.Zf | apply Kd.Ze | apply Kd.Zj)); exact Kd.Zv (Kd.Yh (p := ⟨gb1465, 2, none⟩) (Kd.Yh (p := ⟨gb1465, 1, none⟩) (Kd.Yh (p := ⟨gb1465, 0, none⟩) (Kd.Yq HO1455.out BK1465.out (by decide)) (fun _ hk => hk.2) (.bool t1457)) (fun _ hk => hk.2) (.slice Ao33 t1458.length co33)) (fun _ hk => hk.2) (.slice Ao34 t1461.length co34)) (fun _ hk => ⟨hk.1.1.1.1.2, ⟨hk.1.1.1.2, ⟨hk.1.1.1.1.1, ⟨hk.1.1.2, hk.1.2⟩⟩⟩⟩)⟩
       have n4_ : Yt (Kd.R (Kd.int .u32) 47 (((w30.setCell ⟨gb1465, 0, none⟩ (.bool t1457)).setCell ⟨gb1465, 1, none⟩ (.slice Ao33 t1458.length co33)).setCell ⟨gb1465, 2, none⟩ (.slice Ao34 t1461.length co34)) w.heap.size (fun k_ => some k_ ≠ (.slice Ao15 t1441.length co15 : Value).ownBlock ∧ some k_ ≠ (.slice Ao16 t1444.length co16 : Value).ownBlock ∧ some k_ ≠ (.slice Ao20 t1450.length co20 : Value).ownBlock ∧ some k_ ≠ (.slice Ao21 t1453.length co21 : Value).ownBlock ∧ some k_ ≠ (.slice Ao34 t1461.length co34 : Value).ownBlock) (.slice Ao33 t1458.length co33) t1458) := ⟨by (with_reducible repeat (first | apply Kd.Zf | apply Kd.Ze | apply Kd.Zj)); exact Kd.Zv (Kd.Yh (p := ⟨gb1465, 2, none⟩) (Kd.Yh (p := ⟨gb1465, 1, none⟩) (Kd.Yh (p := ⟨gb1465, 0, none⟩) (Kd.Yq HO1460.out BK1465.out (by decide)) (fun _ hk => hk.2) (.bool t1457)) (fun _ hk => hk.2) (.slice Ao33 t1458.length co33)) (fun _ hk => hk.2) (.slice Ao34 t1461.length co34)) (fun _ hk => ⟨hk.1.1.1.1.2, ⟨hk.1.1.1.2, ⟨hk.1.1.2, ⟨hk.1.2, hk.1.1.1.1.1⟩⟩⟩⟩)⟩
       have n5_ : Yt (Kd.R (Kd.int .u32) 47 (((w30.setCell ⟨gb1465, 0, none⟩ (.bool t1457)).setCell ⟨gb1465, 1, none⟩ (.slice Ao33 t1458.length co33)).setCell ⟨gb1465, 2, none⟩ (.slice Ao34 t1461.length co34)) w.heap.size (fun k_ => some k_ ≠ (.slice Ao15 t1441.length co15 : Value).ownBlock ∧ some k_ ≠ (.slice Ao16 t1444.length co16 : Value).ownBlock ∧ some k_ ≠ (.slice Ao20 t1450.length co20 : Value).ownBlock ∧ some k_ ≠ (.slice Ao21 t1453.length co21 : Value).ownBlock ∧ some k_ ≠ (.slice Ao33 t1458.length co33 : Value).ownBlock) (.slice Ao34 t1461.length co34) t1461) := ⟨by (with_reducible repeat (first | apply Kd.Zf | apply Kd.Ze | apply Kd.Zj)); exact Kd.Zv (Kd.Yh (p := ⟨gb1465, 2, none⟩) (Kd.Yh (p := ⟨gb1465, 1, none⟩) (Kd.Yh (p := ⟨gb1465, 0, none⟩) (Kd.Yq HO1463.out BK1465.out (by decide)) (fun _ hk => hk.2) (.bool t1457)) (fun _ hk => hk.2) (.slice Ao33 t1458.length co33)) (fun _ hk => hk.2) (.slice Ao34 t1461.length co34)) (fun _ hk => ⟨hk.1.1.1.1.2, ⟨hk.1.1.1.2, ⟨hk.1.1.2, ⟨hk.1.2, hk.1.1.1.1.1⟩⟩⟩⟩)⟩
       have n6_ : Yt ((((w30.setCell ⟨gb1465, 0, none⟩ (.bool t1457)).setCell ⟨gb1465, 1, none⟩ (.slice Ao33 t1458.length co33)).setCell ⟨gb1465, 2, none⟩ (.slice Ao34 t1461.length co34)).heap[gb1438]? = some (.cells #[.bool a0_0, .slice A0_1 l0_1.length c0_1, .slice A0_2 l0_2.length c0_2] 50 (0, 0))) := ⟨by (with_reducible repeat (first | refine Zg ?_ _ | refine Zi ?_ | refine Zh ?_ _)); refine blk_far ?_ NB1438_1465.out _; (with_reducible repeat (first | refine Zg ?_ _ | refine Zi ?_ | refine Zh ?_ _)); refine blk_far ?_ NB1438_1465.out _; (with_reducible repeat (first | refine Zg ?_ _ | refine Zi ?_ | refine Zh ?_ _)); refine blk_far ?_ NB1438_1465.out _; (with_reducible repeat (first | refine Zg ?_ _ | refine Zi ?_ | refine Zh ?_ _)); exact BK1438.out⟩
       have n7_ : Yt ((((w30.setCell ⟨gb1465, 0, none⟩ (.bool t1457)).setCell ⟨gb1465, 1, none⟩ (.slice Ao33 t1458.length co33)).setCell ⟨gb1465, 2, none⟩ (.slice Ao34 t1461.length co34)).heap[gb1465]? = some (.cells #[.bool t1457, .slice Ao33 t1458.length co33, .slice Ao34 t1461.length co34] 50 (0, 0))) := ⟨by (with_reducible repeat (first | refine Zg ?_ _ | refine Zi ?_ | refine Zh ?_ _)); refine Ym (cs := #[.bool t1457, .slice Ao33 t1458.length co33, .slice none 0 0]) ?_ 2 _ rfl; (with_reducible repeat (first | refine Zg ?_ _ | refine Zi ?_ | refine Zh ?_ _)); refine Ym (cs := #[.bool t1457, .slice none 0 0, .slice none 0 0]) ?_ 1 _ rfl; (with_reducible repeat (first | refine Zg ?_ _ | refine Zi ?_ | refine Zh ?_ _)); refine Ym (cs := #[.bool false, .slice none 0 0, .slice none 0 0]) ?_ 0 _ rfl; (with_reducible repeat (first | refine Zg ?_ _ | refine Zi ?_ | refine Zh ?_ _)); exact BK1465.out⟩
       have n8_ : Yt (Below w.heap.size w (((w30.setCell ⟨gb1465, 0, none⟩ (.bool t1457)).setCell ⟨gb1465, 1, none⟩ (.slice Ao33 t1458.length co33)).setCell ⟨gb1465, 2, none⟩ (.slice Ao34 t1461.length co34))) := ⟨by repeat (first | (with_reducible first | exact HB.out | apply Zb | apply Za | apply Zc | refine Zd ?_ GE1438.out | refine Zd ?_ GE1465.out) | exact HB.out)⟩
       (try clear HO1443)
       (try clear HO1446)
       (try clear HO1452)
       (try clear HO1455)
       (try clear HO1460)
       (try clear HO1463)
       (try clear BK1438)
       (try clear BK1465)
       (try clear HB)
       generalize (((w30.setCell ⟨gb1465, 0, none⟩ (.bool t1457)).setCell ⟨gb1465, 1, none⟩ (.slice Ao33 t1458.length co33)).setCell ⟨gb1465, 2, none⟩ (.slice Ao34 t1461.length co34)) = w35 at n0_ n1_ n2_ n3_ n4_ n5_ n6_ n7_ n8_ ⊢
       have HO1443 := n0_
       have HO1446 := n1_
       have HO1452 := n2_
       have HO1455 := n3_
       have HO1460 := n4_
       have HO1463 := n5_
       have BK1438 := n6_
       have BK1465 := n7_
       have HB := n8_
       clear n0_ n1_ n2_ n3_ n4_ n5_ n6_ n7_ n8_
       have n0_ := Yt.mk (Kd.Zj HO1443.out)
       have n1_ := Yt.mk (Kd.Zj HO1446.out)
       have n2_ := Yt.mk (Kd.Zj HO1452.out)
       have n3_ := Yt.mk (Kd.Zj HO1455.out)
       have n4_ := Yt.mk (Kd.Zj HO1460.out)
       have n5_ := Yt.mk (Kd.Zj HO1463.out)
       have n6_ := Yt.mk (Zi BK1438.out)
       have n7_ := Yt.mk (Zi BK1465.out)
       have n8_ := Yt.mk (Zc HB.out)
       clear HO1443
       clear HO1446
       clear HO1452
       clear HO1455
       clear HO1460
       clear HO1463
       clear BK1438
       clear BK1465
       clear HB
       have HO1443 := n0_
       have HO1446 := n1_
       have HO1452 := n2_
       have HO1455 := n3_
       have HO1460 := n4_
       have HO1463 := n5_
       have BK1438 := n6_
       have BK1465 := n7_
       have HB := n8_
       clear n0_ n1_ n2_ n3_ n4_ n5_ n6_ n7_ n8_
       refine start_ (n := 9) (S := fun w' => w'.cell? ⟨gb1465, 0, none⟩ = some (.bool t1457) ∧ w'.cell? ⟨gb1465, 1, none⟩ = some (.slice Ao33 t1458.length co33) ∧ w'.cell? ⟨gb1465, 2, none⟩ = some (.slice Ao34 t1461.length co34) ∧ w'.cell? ⟨gb1438, 0, none⟩ = some (.bool a0_0) ∧ w'.cell? ⟨gb1438, 1, none⟩ = some (.slice A0_1 l0_1.length c0_1) ∧ w'.cell? ⟨gb1438, 2, none⟩ = some (.slice A0_2 l0_2.length c0_2)) (ds := []) #[false, false, false, false, false, false, false, false, false] (by kernel_rfl) rfl rfl ⟨(Zl BK1465.out 0).trans rfl, (Zl BK1465.out 1).trans rfl, (Zl BK1465.out 2).trans rfl, (Zl BK1438.out 0).trans rfl, (Zl BK1438.out 1).trans rfl, (Zl BK1438.out 2).trans rfl⟩ (fun hHeld => ?_); refine with_tabW sibyllaw02_RatioBack.tab8 sibyllaw02_RatioBack.bits8 (fun HT_ HW_ => ?_)
       generalize w35.drew = w36 at HO1443 HO1446 HO1452 HO1455 HO1460 HO1463 BK1438 BK1465 HB hHeld ⊢
       refine pure_ (i := 0) (N := some 36) (v := ?_) (a' := ?_) #[true, false, false, false, false, false, false, false, false] rfl rfl (any_of HT_.out (by kernel_rfl)) (fun _ _ _ h => h) (Or.inl ⟨by rfl, ?_⟩) ?_ ?_
       rotate_left
       ·intro w'
        go_simp
        with_reducible rfl
       rotate_left
       ·simp only [Act.put, List.setIfInBounds_toArray, List.set_cons_zero, List.set_cons_succ, Yi, Yj]
        rfl
       refine pure_ (i := 1) (N := some 37) (v := ?_) (a' := ?_) #[true, true, false, false, false, false, false, false, false] rfl rfl (any_of HT_.out (by kernel_rfl)) (fun _ _ _ h => h) (Or.inl ⟨by rfl, ?_⟩) ?_ ?_
       rotate_left
       ·intro w'
        go_simp
        with_reducible rfl
       rotate_left
       ·simp only [Act.put, List.setIfInBounds_toArray, List.set_cons_zero, List.set_cons_succ, Yi, Yj]
        rfl
       refine pure_ (i := 2) (N := some 38) (v := ?_) (a' := ?_) #[true, true, true, false, false, false, false, false, false] rfl rfl (any_of HT_.out (by kernel_rfl)) (fun _ _ _ h => h) (Or.inl ⟨by rfl, ?_⟩) ?_ ?_
       rotate_left
       ·intro w'
        go_simp
        with_reducible rfl
       rotate_left
       ·simp only [Act.put, List.setIfInBounds_toArray, List.set_cons_zero, List.set_cons_succ, Yi, Yj]
        rfl
       refine take_ (i := 3) (N := some 39) (v := ?_) (a' := ?_) #[true, true, true, true, false, false, false, false, false] rfl rfl (take_ofW HT_.out HW_.out (by kernel_rfl)) (fun _ _ _ h => h) (Or.inl ⟨by rfl, ?_⟩) hHeld ?_ ?_
       rotate_left
       ·rintro w' ⟨s0, s1, s2, s3, s4, s5⟩
        go_simp
        with_reducible rfl
       rotate_left
       ·simp only [Act.put, List.setIfInBounds_toArray, List.set_cons_zero, List.set_cons_succ, Yi, Yj]
        rfl
       refine take_ (i := 4) (N := some 40) (v := ?_) (a' := ?_) #[true, true, true, true, true, false, false, false, false] rfl rfl (take_ofW HT_.out HW_.out (by kernel_rfl)) (fun _ _ _ h => h) (Or.inl ⟨by rfl, ?_⟩) hHeld ?_ ?_
       rotate_left
       ·rintro w' ⟨s0, s1, s2, s3, s4, s5⟩
        go_simp
        with_reducible rfl
       rotate_left
       ·simp only [Act.put, List.setIfInBounds_toArray, List.set_cons_zero, List.set_cons_succ, Yi, Yj]
        rfl
       refine one_ (i := 5) (N := some 41) #[true, true, true, true, true, true, false, false, false] rfl rfl (one_of HT_.out (by kernel_rfl)) (by decide) (fun K hK => ?_)
       refine goes_ Try.func51 (by kernel_rfl) rfl #[.agg #[.bool a0_0, .slice A0_1 l0_1.length c0_1, .slice A0_2 l0_2.length c0_2]] (by rfl) rfl rfl (by (try simp only [List.map_toArray, List.map_cons, List.map_nil]); first | done | rfl | (simp only [List.length_drop, List.length_take]; rfl)) ?_
       with_reducible refine (sibyllaw02_own.calls a0_0 _ _ l0_1 _ _ l0_2 t1466 t1467 t1470 _ ?side1 ?side2 ?side3 ?side4 A26.out).mono ?_
       (case side1 => repeat (first | exact (Kd.Ys HR0_1.out HB.out) | (with_reducible refine Kd.Zu ?_ _) | (with_reducible refine Kd.Zt ?_ _) | (with_reducible refine Kd.Yc ?_)))
       (case side2 => exact HC0_1.out)
       (case side3 => repeat (first | exact (Kd.Ys HR0_2.out HB.out) | (with_reducible refine Kd.Zu ?_ _) | (with_reducible refine Kd.Zt ?_ _) | (with_reducible refine Kd.Yc ?_)))
       (case side4 => exact HC0_2.out)
       rintro e w37 ⟨v1468, v1471, rfl, ho0, ho1, hb⟩
       refine ⟨_, rfl, ?_⟩
       have n0_ := Yt.mk (Kd.Zv (Kd.Yl (Kd.Yl (Kd.R_old (by (with_reducible repeat (first | apply Kd.Zf | apply Kd.Ze | apply Kd.Zj)); exact HO1443.out) hb) (Kd.Zw ho0)) (Kd.Zw ho1)) (fun _ h_ => h_.1))
       have n1_ := Yt.mk (Kd.Zv (Kd.Yl (Kd.Yl (Kd.R_old (by (with_reducible repeat (first | apply Kd.Zf | apply Kd.Ze | apply Kd.Zj)); exact HO1446.out) hb) (Kd.Zw ho0)) (Kd.Zw ho1)) (fun _ h_ => h_.1))
       have n2_ := Yt.mk (Kd.Zv (Kd.Yl (Kd.Yl (Kd.R_old (by (with_reducible repeat (first | apply Kd.Zf | apply Kd.Ze | apply Kd.Zj)); exact HO1452.out) hb) (Kd.Zw ho0)) (Kd.Zw ho1)) (fun _ h_ => h_.1))
       have n3_ := Yt.mk (Kd.Zv (Kd.Yl (Kd.Yl (Kd.R_old (by (with_reducible repeat (first | apply Kd.Zf | apply Kd.Ze | apply Kd.Zj)); exact HO1455.out) hb) (Kd.Zw ho0)) (Kd.Zw ho1)) (fun _ h_ => h_.1))
       have n4_ := Yt.mk (Kd.Zv (Kd.Yl (Kd.Yl (Kd.R_old (by (with_reducible repeat (first | apply Kd.Zf | apply Kd.Ze | apply Kd.Zj)); exact HO1460.out) hb) (Kd.Zw ho0)) (Kd.Zw ho1)) (fun _ h_ => h_.1))
       have n5_ := Yt.mk (Kd.Zv (Kd.Yl (Kd.Yl (Kd.R_old (by (with_reducible repeat (first | apply Kd.Zf | apply Kd.Ze | apply Kd.Zj)); exact HO1463.out) hb) (Kd.Zw ho0)) (Kd.Zw ho1)) (fun _ h_ => h_.1))
       have n6_ := Yt.mk (Kd.Yb (Kd.Ya (Kd.Ya (Kd.Ya (Kd.Ya (Kd.Ya (Kd.Ya ho0 (Kd.R_lt (by (with_reducible repeat (first | apply Kd.Zf | apply Kd.Ze | apply Kd.Zj)); exact HO1443.out))) (Kd.R_lt (by (with_reducible repeat (first | apply Kd.Zf | apply Kd.Ze | apply Kd.Zj)); exact HO1446.out))) (Kd.R_lt (by (with_reducible repeat (first | apply Kd.Zf | apply Kd.Ze | apply Kd.Zj)); exact HO1452.out))) (Kd.R_lt (by (with_reducible repeat (first | apply Kd.Zf | apply Kd.Ze | apply Kd.Zj)); exact HO1455.out))) (Kd.R_lt (by (with_reducible repeat (first | apply Kd.Zf | apply Kd.Ze | apply Kd.Zj)); exact HO1460.out))) (Kd.R_lt (by (with_reducible repeat (first | apply Kd.Zf | apply Kd.Ze | apply Kd.Zj)); exact HO1463.out))) (Zk (by repeat (first | (with_reducible first | exact HB.out | apply Zb | apply Za | apply Zc | refine Zd ?_ GE1438.out | refine Zd ?_ GE1465.out) | exact HB.out))))
       have n7_ := Yt.mk (Kd.Yb (Kd.Ya (Kd.Ya (Kd.Ya (Kd.Ya (Kd.Ya (Kd.Ya ho1 (Kd.R_lt (by (with_reducible repeat (first | apply Kd.Zf | apply Kd.Ze | apply Kd.Zj)); exact HO1443.out))) (Kd.R_lt (by (with_reducible repeat (first | apply Kd.Zf | apply Kd.Ze | apply Kd.Zj)); exact HO1446.out))) (Kd.R_lt (by (with_reducible repeat (first | apply Kd.Zf | apply Kd.Ze | apply Kd.Zj)); exact HO1452.out))) (Kd.R_lt (by (with_reducible repeat (first | apply Kd.Zf | apply Kd.Ze | apply Kd.Zj)); exact HO1455.out))) (Kd.R_lt (by (with_reducible repeat (first | apply Kd.Zf | apply Kd.Ze | apply Kd.Zj)); exact HO1460.out))) (Kd.R_lt (by (with_reducible repeat (first | apply Kd.Zf | apply Kd.Ze | apply Kd.Zj)); exact HO1463.out))) (Zk (by repeat (first | (with_reducible first | exact HB.out | apply Zb | apply Za | apply Zc | refine Zd ?_ GE1438.out | refine Zd ?_ GE1465.out) | exact HB.out))))
       have n8_ := Yt.mk (Zq (g := gb1438) (o := .cells #[.bool a0_0, .slice A0_1 l0_1.length c0_1, .slice A0_2 l0_2.length c0_2] 50 (0, 0)) (by (with_reducible repeat (first | refine Zg ?_ _ | refine Zi ?_ | refine Zh ?_ _)); exact BK1438.out) hb)
       have n9_ := Yt.mk (Zq (g := gb1465) (o := .cells #[.bool t1457, .slice Ao33 t1458.length co33, .slice Ao34 t1461.length co34] 50 (0, 0)) (by (with_reducible repeat (first | refine Zg ?_ _ | refine Zi ?_ | refine Zh ?_ _)); exact BK1465.out) hb)
       have n10_ := Yt.mk (Zm (by repeat (first | (with_reducible first | exact HB.out | apply Zb | apply Za | apply Zc | refine Zd ?_ GE1438.out | refine Zd ?_ GE1465.out) | exact HB.out)) hb)
       clear HO1443
       clear HO1446
       clear HO1452
       clear HO1455
       clear HO1460
       clear HO1463
       clear BK1438
       clear BK1465
       clear HB
       have HO1443 := n0_
       have HO1446 := n1_
       have HO1452 := n2_
       have HO1455 := n3_
       have HO1460 := n4_
       have HO1463 := n5_
       have HO1469 := n6_
       have HO1472 := n7_
       have BK1438 := n8_
       have BK1465 := n9_
       have HB := n10_
       clear n0_ n1_ n2_ n3_ n4_ n5_ n6_ n7_ n8_ n9_ n10_
       (try clear hb)
       (try clear hb2)
       (try clear hk)
       (try clear hi)
       (try clear ho0)
       (try clear ho1)
       obtain ⟨Ao38, co38, eo38⟩ := Kd.Zx HO1469.out
       (first | subst eo38 | (injection eo38 with f1_ f2_ f3_; have f4_ := f1_.symm; have f5_ := f3_.symm; clear f1_ f2_ f3_; subst f4_; subst f5_))
       obtain ⟨Ao39, co39, eo39⟩ := Kd.Zx HO1472.out
       (first | subst eo39 | (injection eo39 with f1_ f2_ f3_; have f4_ := f1_.symm; have f5_ := f3_.symm; clear f1_ f2_ f3_; subst f4_; subst f5_))
       refine hK.out _ _ ⟨(Zl BK1465.out 0).trans rfl, (Zl BK1465.out 1).trans rfl, (Zl BK1465.out 2).trans rfl, (Zl BK1438.out 0).trans rfl, (Zl BK1438.out 1).trans rfl, (Zl BK1438.out 2).trans rfl⟩ (fun hHeld => ?_)
       clear hK K
       refine norm_ (a' := ?_) ?_ ?_
       rotate_left
       ·show Act.put _ (some 41) _ = _
        simp only [Act.put, List.setIfInBounds_toArray, List.set_cons_zero, List.set_cons_succ, Yi, Yj]
        rfl
       refine one_ (i := 6) (N := some 42) #[true, true, true, true, true, true, true, false, false] rfl rfl (one_of HT_.out (by kernel_rfl)) (by decide) (fun K hK => ?_)
       refine goes_ Try.func53 (by kernel_rfl) rfl #[.agg #[.bool t1457, .slice Ao33 t1458.length co33, .slice Ao34 t1461.length co34], .agg #[.bool t1466, .slice Ao38 t1467.length co38, .slice Ao39 t1470.length co39]] (by rfl) rfl rfl (by (try simp only [List.map_toArray, List.map_cons, List.map_nil]); first | done | rfl | (simp only [List.length_drop, List.length_take]; rfl)) ?_
       with_reducible refine (ratio_Same.calls k t1457 _ _ t1458 _ _ t1461 t1466 _ _ t1467 _ _ t1470 true _ ?side1 ?side2 ?side3 ?side4 ?side5 ?side6 ?side7 ?side8 A27.out).mono ?_
       (case side1 => repeat (first | exact (Kd.Zs HO1460.out).2.2 | (with_reducible refine Kd.Zu ?_ _) | (with_reducible refine Kd.Zt ?_ _) | (with_reducible refine Kd.Yc ?_)))
       (case side2 => exact (Kd.Zs HO1460.out).2.1)
       (case side3 => repeat (first | exact (Kd.Zs HO1463.out).2.2 | (with_reducible refine Kd.Zu ?_ _) | (with_reducible refine Kd.Zt ?_ _) | (with_reducible refine Kd.Yc ?_)))
       (case side4 => exact (Kd.Zs HO1463.out).2.1)
       (case side5 => repeat (first | exact (Kd.Zs HO1469.out).2.2 | (with_reducible refine Kd.Zu ?_ _) | (with_reducible refine Kd.Zt ?_ _) | (with_reducible refine Kd.Yc ?_)))
       (case side6 => exact (Kd.Zs HO1469.out).2.1)
       (case side7 => repeat (first | exact (Kd.Zs HO1472.out).2.2 | (with_reducible refine Kd.Zu ?_ _) | (with_reducible refine Kd.Zt ?_ _) | (with_reducible refine Kd.Yc ?_)))
       (case side8 => exact (Kd.Zs HO1472.out).2.1)
       rintro e w40 ⟨rfl, hb⟩
       refine ⟨_, rfl, ?_⟩
       have n0_ := Yt.mk (Kd.Yd (by (with_reducible repeat (first | apply Kd.Zf | apply Kd.Ze | apply Kd.Zj)); exact HO1443.out) hb)
       have n1_ := Yt.mk (Kd.Yd (by (with_reducible repeat (first | apply Kd.Zf | apply Kd.Ze | apply Kd.Zj)); exact HO1446.out) hb)
       have n2_ := Yt.mk (Kd.Yd (by (with_reducible repeat (first | apply Kd.Zf | apply Kd.Ze | apply Kd.Zj)); exact HO1452.out) hb)
       have n3_ := Yt.mk (Kd.Yd (by (with_reducible repeat (first | apply Kd.Zf | apply Kd.Ze | apply Kd.Zj)); exact HO1455.out) hb)
       have n4_ := Yt.mk (Kd.Yd (by (with_reducible repeat (first | apply Kd.Zf | apply Kd.Ze | apply Kd.Zj)); exact HO1460.out) hb)
       have n5_ := Yt.mk (Kd.Yd (by (with_reducible repeat (first | apply Kd.Zf | apply Kd.Ze | apply Kd.Zj)); exact HO1463.out) hb)
       have n6_ := Yt.mk (Kd.Yd (by (with_reducible repeat (first | apply Kd.Zf | apply Kd.Ze | apply Kd.Zj)); exact HO1469.out) hb)
       have n7_ := Yt.mk (Kd.Yd (by (with_reducible repeat (first | apply Kd.Zf | apply Kd.Ze | apply Kd.Zj)); exact HO1472.out) hb)
       have n8_ := Yt.mk (Zq (g := gb1438) (o := .cells #[.bool a0_0, .slice A0_1 l0_1.length c0_1, .slice A0_2 l0_2.length c0_2] 50 (0, 0)) (by (with_reducible repeat (first | refine Zg ?_ _ | refine Zi ?_ | refine Zh ?_ _)); exact BK1438.out) hb)
       have n9_ := Yt.mk (Zq (g := gb1465) (o := .cells #[.bool t1457, .slice Ao33 t1458.length co33, .slice Ao34 t1461.length co34] 50 (0, 0)) (by (with_reducible repeat (first | refine Zg ?_ _ | refine Zi ?_ | refine Zh ?_ _)); exact BK1465.out) hb)
       have n10_ := Yt.mk (Zm (by repeat (first | (with_reducible first | exact HB.out | apply Zb | apply Za | apply Zc | refine Zd ?_ GE1438.out | refine Zd ?_ GE1465.out) | exact HB.out)) hb)
       clear HO1443
       clear HO1446
       clear HO1452
       clear HO1455
       clear HO1460
       clear HO1463
       clear HO1469
       clear HO1472
       clear BK1438
       clear BK1465
       clear HB
       have HO1443 := n0_
       have HO1446 := n1_
       have HO1452 := n2_
       have HO1455 := n3_
       have HO1460 := n4_
       have HO1463 := n5_
       have HO1469 := n6_
       have HO1472 := n7_
       have BK1438 := n8_
       have BK1465 := n9_
       have HB := n10_
       clear n0_ n1_ n2_ n3_ n4_ n5_ n6_ n7_ n8_ n9_ n10_
       (try clear hb)
       (try clear hb2)
       (try clear hk)
       (try clear hi)
       refine hK.out _ _ ⟨(Zl BK1465.out 0).trans rfl, (Zl BK1465.out 1).trans rfl, (Zl BK1465.out 2).trans rfl, (Zl BK1438.out 0).trans rfl, (Zl BK1438.out 1).trans rfl, (Zl BK1438.out 2).trans rfl⟩ (fun hHeld => ?_)
       clear hK K
       refine norm_ (a' := ?_) ?_ ?_
       rotate_left
       ·show Act.put _ (some 42) _ = _
        simp only [Act.put, List.setIfInBounds_toArray, List.set_cons_zero, List.set_cons_succ, Yi, Yj]
        rfl
       refine pure_ (i := 7) (N := some 43) (v := ?_) (a' := ?_) #[true, true, true, true, true, true, true, true, false] rfl rfl (any_of HT_.out (by kernel_rfl)) (fun _ _ _ h => h) (Or.inl ⟨by rfl, ?_⟩) ?_ ?_
       rotate_left
       ·intro w'
        go_simp
        with_reducible rfl
       rotate_left
       ·simp only [Act.put, List.setIfInBounds_toArray, List.set_cons_zero, List.set_cons_succ, Yi, Yj]
        rfl
       refine pure_ (i := 8) (N := some 44) (v := ?_) (a' := ?_) #[true, true, true, true, true, true, true, true, true] rfl rfl (any_of HT_.out (by kernel_rfl)) (fun _ _ _ h => h) (Or.inl ⟨by rfl, ?_⟩) ?_ ?_
       rotate_left
       ·intro w'
        go_simp
        with_reducible rfl
       rotate_left
       ·simp only [Act.put, List.setIfInBounds_toArray, List.set_cons_zero, List.set_cons_succ, Yi, Yj]
        rfl
       refine done_ (done_of HT_.out (by kernel_rfl)) ?_
       try go_wp2
       go_meet
       case rel => exact ⟨_, H', ⟨by first | omega | exact Nat.le_refl _⟩, ⟨by (with_reducible repeat (first | refine Zg ?_ _ | refine Zi ?_ | refine Zh ?_ _)); exact BK1438.out⟩, ⟨by repeat (first | (with_reducible first | exact HB.out | apply Zb | apply Za | apply Zc | refine Zd ?_ GE1438.out | refine Zd ?_ GE1465.out) | exact HB.out)⟩⟩
      ·replace c28 := Bool.eq_false_iff.mpr c28
       subst c28
       have H1 : (none) = some r := by rw [if_neg (show ¬ (false = true) by decide)] at H; exact H
       clear H
       have H := H1
       clear H1
       exact absurd H (by simp)
     ·rw [if_neg c25] at H
      have c25b0 : (t1464 == 0) = false := beq_eq_false_iff_ne.mpr c25
      have c25b1 : (t1464 != 0) = true := bne_iff_ne.mpr c25
      exact absurd H (by simp)
    ·rw [if_neg c23] at H
     have c23b0 : (t1448 == 0) = false := beq_eq_false_iff_ne.mpr c23
     have c23b1 : (t1448 != 0) = true := bne_iff_ne.mpr c23
     (first | rw [c23b0] | rw [c23b1] | (simp only [Yi, Yj]; rw [c23b0]) | skip)
     have H' := Yt.mk H
     clear H
     go_wp2
     go_meet
     case rel => exact ⟨_, H', ⟨by first | omega | exact Nat.le_refl _⟩, ⟨by (with_reducible repeat (first | refine Zg ?_ _ | refine Zi ?_ | refine Zh ?_ _)); exact BK1438.out⟩, ⟨by repeat (first | (with_reducible first | exact HB.out | apply Zb | apply Za | apply Zc | refine Zd ?_ GE1438.out) | exact HB.out)⟩⟩
   case rest =>
    clear HC10
    try clear c1
    try clear c2
    try clear p2
    try clear c3
    try clear c4
    try clear c5
    try clear c9
    try clear c9b0
    try clear c9b1
    try clear c9b2
    try clear c14
    try clear c23
    try clear c23b0
    try clear c23b1
    try clear c25
    try clear c25b0
    try clear c25b1
    try clear c28
    try clear c31
    try clear hcz13_0
    try clear hcz13_1
    try clear hcz13_2
    try clear hcz18_0
    try clear hcz18_1
    try clear hcz18_2
    try clear hcz32_0
    try clear hcz32_1
    try clear hcz32_2
    try clear hfz13_0
    try clear hfz13_1
    try clear hfz13_2
    try clear hfz18_0
    try clear hfz18_1
    try clear hfz18_2
    try clear hfz32_0
    try clear hfz32_1
    try clear hfz32_2
    obtain ⟨kq, HA, HJ9, BK1438, HB⟩ := hcut
    cases kq with
    | zero => exact absurd HA.out (by simp [sibyllaw02_RatioBack.j0])
    | succ kj9 =>
     have H := HA.out
     clear HA
     simp only [sibyllaw02_RatioBack.j0] at H
     replace H := Option.bind_eq_some_iff.mp H
     obtain ⟨⟨t1474, t1475, t1478, t1481⟩, A410, H⟩ := H
     try dsimp only at H
     have A41 := Yt.mk A410
     clear A410
     by_cases c42 : t1481 = 0
     ·rw [if_pos c42] at H
      have c42b0 : (t1481 == 0) = true := beq_iff_eq.mpr c42
      have c42b1 : (t1481 != 0) = false := bne_eq_false_iff_eq.mpr c42
      clear c42
      replace H := Option.bind_eq_some_iff.mp H
      obtain ⟨⟨t1483, t1484⟩, A430, H⟩ := H
      try dsimp only at H
      have A43 := Yt.mk A430
      clear A430
      replace H := Option.bind_eq_some_iff.mp H
      obtain ⟨⟨t1485, t1486, t1489, t1492⟩, A440, H⟩ := H
      try dsimp only at H
      have A44 := Yt.mk A440
      clear A440
      by_cases c45 : t1484 = 0
      ·rw [if_pos c45] at H
       have c45b0 : (t1484 == 0) = true := beq_iff_eq.mpr c45
       have c45b1 : (t1484 != 0) = false := bne_eq_false_iff_eq.mpr c45
       clear c45
       by_cases c46 : t1492 = 0
       ·rw [if_pos c46] at H
        have c46b0 : (t1492 == 0) = true := beq_iff_eq.mpr c46
        have c46b1 : (t1492 != 0) = false := bne_eq_false_iff_eq.mpr c46
        clear c46
        replace H := Option.bind_eq_some_iff.mp H
        obtain ⟨t1494, A470, H⟩ := H
        replace H : (some t1494) = some r := H
        have A47 := Yt.mk A470
        clear A470
        obtain rfl := Option.some.inj H
        go_wp2_with (first | ((with_reducible refine Zr (f := 59) rfl ?_); refine Yg (some 47) rfl rfl Try.func59 (by kernel_rfl) rfl #[.string a1] rfl (by (try simp only [List.map_toArray, List.map_cons, List.map_nil]); first | done | rfl | (simp only [List.length_drop, List.length_take]; rfl)) ?_; (with_reducible refine (ratio_Read.calls kj9 a1 t1474 t1475 t1478 t1481 _ A41.out).mono ?_); rintro e w48 ⟨v1476, v1479, rfl, ho0, ho1, hb⟩; refine ⟨_, rfl, ?_⟩; have n0_ := Yt.mk (Kd.Yb ho0 (Zk (by repeat (first | (with_reducible first | exact HB.out | apply Zb | apply Za | apply Zc | refine Zd ?_ GE1438.out) | exact HB.out)))); have n1_ := Yt.mk (Kd.Yb ho1 (Zk (by repeat (first | (with_reducible first | exact HB.out | apply Zb | apply Za | apply Zc | refine Zd ?_ GE1438.out) | exact HB.out)))); have n2_ := Yt.mk (Zq (g := gb1438) (o := .cells #[.bool a0_0, .slice A0_1 l0_1.length c0_1, .slice A0_2 l0_2.length c0_2] 50 (0, 0)) (by (with_reducible repeat (first | refine Zg ?_ _ | refine Zi ?_ | refine Zh ?_ _)); exact BK1438.out) hb); have n3_ := Yt.mk (Zm (by repeat (first | (with_reducible first | exact HB.out | apply Zb | apply Za | apply Zc | refine Zd ?_ GE1438.out) | exact HB.out)) hb); clear BK1438; clear HB; have HO1477 := n0_; have HO1480 := n1_; have BK1438 := n2_; have HB := n3_; clear n0_ n1_ n2_ n3_; (try clear hb); (try clear hb2); (try clear hk); (try clear hi); (try clear ho0); (try clear ho1)) | ((with_reducible refine Yk (N := 9) rfl ?_); refine Yo ?hg (N := 9) ?hd (cs := #[.bool false, .slice none 0 0, .slice none 0 0]) (t := 50) ?hr ?_; (case hd => rfl); (case hg => rfl); (case hr => first | (go_simp; done) | (go_simp; rfl)); intro gb1482 hg w49 hbox hb; have n0_ := Yt.mk (Kd.Yd (by (with_reducible repeat (first | apply Kd.Zf | apply Kd.Ze | apply Kd.Zj)); exact HO1477.out) hb); have n1_ := Yt.mk (Kd.Yd (by (with_reducible repeat (first | apply Kd.Zf | apply Kd.Ze | apply Kd.Zj)); exact HO1480.out) hb); have n2_ := Yt.mk (Zq (g := gb1438) (o := .cells #[.bool a0_0, .slice A0_1 l0_1.length c0_1, .slice A0_2 l0_2.length c0_2] 50 (0, 0)) (by (with_reducible repeat (first | refine Zg ?_ _ | refine Zi ?_ | refine Zh ?_ _)); exact BK1438.out) hb); have n3_ := Yt.mk (Zm (by repeat (first | (with_reducible first | exact HB.out | apply Zb | apply Za | apply Zc | refine Zd ?_ GE1438.out) | exact HB.out)) hb); have n4_ := Yt.mk (hbox); have n5_ := Yt.mk ((by rw [hg]; exact (Zk (by repeat (first | (with_reducible first | exact HB.out | apply Zb | apply Za | apply Zc | refine Zd ?_ GE1438.out) | exact HB.out))) : w.heap.size ≤ gb1482)); have n6_ := Yt.mk ((by rw [hg]; exact (Zk (by repeat (first | (with_reducible first | exact HB.out | apply Zb | apply Za | apply Zc | refine Zd ?_ GE1438.out) | exact HB.out))) : w.heap.size ≤ gb1482)); have n7_ := Yt.mk ((by rw [hg]; exact Nat.ne_of_lt (blk_lt (g := gb1438) (o := .cells #[.bool a0_0, .slice A0_1 l0_1.length c0_1, .slice A0_2 l0_2.length c0_2] 50 (0, 0)) (by (with_reducible repeat (first | refine Zg ?_ _ | refine Zi ?_ | refine Zh ?_ _)); exact BK1438.out)) : gb1438 ≠ gb1482)); have n8_ := Yt.mk ((by rw [hg]; exact Nat.ne_of_gt (blk_lt (g := gb1438) (o := .cells #[.bool a0_0, .slice A0_1 l0_1.length c0_1, .slice A0_2 l0_2.length c0_2] 50 (0, 0)) (by (with_reducible repeat (first | refine Zg ?_ _ | refine Zi ?_ | refine Zh ?_ _)); exact BK1438.out)) : gb1482 ≠ gb1438)); clear HO1477; clear HO1480; clear BK1438; clear HB; have HO1477 := n0_; have HO1480 := n1_; have BK1438 := n2_; have HB := n3_; have BK1482 := n4_; have GW1482 := n5_; have GE1482 := n6_; have NB1438_1482 := n7_; have NB1482_1438 := n8_; clear n0_ n1_ n2_ n3_ n4_ n5_ n6_ n7_ n8_; clear hb hbox hg; have hnb50 := NB1482_1438.out; have hnc50 := NB1438_1482.out; have hcz51_0 : w49.cell? ⟨gb1482, 0, none⟩ = some (.bool false) := (Zl BK1482.out 0).trans rfl; have hcz51_1 : w49.cell? ⟨gb1482, 1, none⟩ = some (.slice none 0 0) := (Zl BK1482.out 1).trans rfl; have hcz51_2 : w49.cell? ⟨gb1482, 2, none⟩ = some (.slice none 0 0) := (Zl BK1482.out 2).trans rfl; have hfz51_0 := Zn BK1482.out 0; have hfz51_1 := Zn BK1482.out 1; have hfz51_2 := Zn BK1482.out 2; obtain ⟨Ao52, co52, eo52⟩ := Kd.Zx HO1477.out; subst eo52; obtain ⟨Ao53, co53, eo53⟩ := Kd.Zx HO1480.out; subst eo53) | ((with_reducible refine Zr (f := 57) rfl ?_); refine Yg (some 56) rfl rfl Try.func57 (by kernel_rfl) rfl #[.agg #[.bool t1474, .slice Ao52 t1475.length co52, .slice Ao53 t1478.length co53]] rfl (by (try simp only [List.map_toArray, List.map_cons, List.map_nil]); first | done | rfl | (simp only [List.length_drop, List.length_take]; rfl)) ?_; (with_reducible refine (ratio_Text.calls kj9 t1474 _ _ t1475 _ _ t1478 t1483 t1484 _ ?side1 ?side2 ?side3 ?side4 A43.out).mono ?_); (case side1 => refine (Kd.Zs (e := 47) (base := w.heap.size) (ok := fun k_ => some k_ ≠ (.slice Ao53 t1478.length co53 : Value).ownBlock) (n := t1475.length) (c := co52) ?_).2.2; exact (by (with_reducible repeat (first | apply Kd.Zf | apply Kd.Ze | apply Kd.Zj)); exact (Kd.Zv (Kd.Yh (p := ⟨gb1482, 2, none⟩) (Kd.Yh (p := ⟨gb1482, 1, none⟩) (Kd.Yh (p := ⟨gb1482, 0, none⟩) (Kd.Yq HO1477.out BK1482.out (by decide)) (fun _ hk => hk.2) (.bool t1474)) (fun _ hk => hk.2) (.slice Ao52 t1475.length co52)) (fun _ hk => hk.2) (.slice Ao53 t1478.length co53)) (fun _ h_ => h_.1)))); (case side2 => exact (Kd.Zs HO1477.out).2.1); (case side3 => refine (Kd.Zs (e := 47) (base := w.heap.size) (ok := fun k_ => some k_ ≠ (.slice Ao52 t1475.length co52 : Value).ownBlock) (n := t1478.length) (c := co53) ?_).2.2; exact (by (with_reducible repeat (first | apply Kd.Zf | apply Kd.Ze | apply Kd.Zj)); exact (Kd.Zv (Kd.Yh (p := ⟨gb1482, 2, none⟩) (Kd.Yh (p := ⟨gb1482, 1, none⟩) (Kd.Yh (p := ⟨gb1482, 0, none⟩) (Kd.Yq HO1480.out BK1482.out (by decide)) (fun _ hk => hk.2) (.bool t1474)) (fun _ hk => hk.2) (.slice Ao52 t1475.length co52)) (fun _ hk => hk.2) (.slice Ao53 t1478.length co53)) (fun _ h_ => h_.1)))); (case side4 => exact (Kd.Zs HO1480.out).2.1); rintro e w54 ⟨rfl, hb⟩; refine ⟨_, rfl, ?_⟩; have n0_ := Yt.mk (Kd.Yd (by (with_reducible repeat (first | apply Kd.Zf | apply Kd.Ze | apply Kd.Zj)); exact (Kd.Zv (Kd.Yh (p := ⟨gb1482, 2, none⟩) (Kd.Yh (p := ⟨gb1482, 1, none⟩) (Kd.Yh (p := ⟨gb1482, 0, none⟩) (Kd.Yq HO1477.out BK1482.out (by decide)) (fun _ hk => hk.2) (.bool t1474)) (fun _ hk => hk.2) (.slice Ao52 t1475.length co52)) (fun _ hk => hk.2) (.slice Ao53 t1478.length co53)) (fun _ h_ => h_.1))) hb); have n1_ := Yt.mk (Kd.Yd (by (with_reducible repeat (first | apply Kd.Zf | apply Kd.Ze | apply Kd.Zj)); exact (Kd.Zv (Kd.Yh (p := ⟨gb1482, 2, none⟩) (Kd.Yh (p := ⟨gb1482, 1, none⟩) (Kd.Yh (p := ⟨gb1482, 0, none⟩) (Kd.Yq HO1480.out BK1482.out (by decide)) (fun _ hk => hk.2) (.bool t1474)) (fun _ hk => hk.2) (.slice Ao52 t1475.length co52)) (fun _ hk => hk.2) (.slice Ao53 t1478.length co53)) (fun _ h_ => h_.1))) hb); have n2_ := Yt.mk (Zq (g := gb1438) (o := .cells #[.bool a0_0, .slice A0_1 l0_1.length c0_1, .slice A0_2 l0_2.length c0_2] 50 (0, 0)) (by (with_reducible repeat (first | refine Zg ?_ _ | refine Zi ?_ | refine Zh ?_ _)); refine blk_far ?_ NB1438_1482.out _; (with_reducible repeat (first | refine Zg ?_ _ | refine Zi ?_ | refine Zh ?_ _)); refine blk_far ?_ NB1438_1482.out _; (with_reducible repeat (first | refine Zg ?_ _ | refine Zi ?_ | refine Zh ?_ _)); refine blk_far ?_ NB1438_1482.out _; (with_reducible repeat (first | refine Zg ?_ _ | refine Zi ?_ | refine Zh ?_ _)); exact BK1438.out) hb); have n3_ := Yt.mk (Zq (g := gb1482) (o := .cells #[.bool t1474, .slice Ao52 t1475.length co52, .slice Ao53 t1478.length co53] 50 (0, 0)) (by (with_reducible repeat (first | refine Zg ?_ _ | refine Zi ?_ | refine Zh ?_ _)); refine Ym (cs := #[.bool t1474, .slice Ao52 t1475.length co52, .slice none 0 0]) ?_ 2 _ rfl; (with_reducible repeat (first | refine Zg ?_ _ | refine Zi ?_ | refine Zh ?_ _)); refine Ym (cs := #[.bool t1474, .slice none 0 0, .slice none 0 0]) ?_ 1 _ rfl; (with_reducible repeat (first | refine Zg ?_ _ | refine Zi ?_ | refine Zh ?_ _)); refine Ym (cs := #[.bool false, .slice none 0 0, .slice none 0 0]) ?_ 0 _ rfl; (with_reducible repeat (first | refine Zg ?_ _ | refine Zi ?_ | refine Zh ?_ _)); exact BK1482.out) hb); have n4_ := Yt.mk (Zm (by repeat (first | (with_reducible first | exact HB.out | apply Zb | apply Za | apply Zc | refine Zd ?_ GE1438.out | refine Zd ?_ GE1482.out) | exact HB.out)) hb); clear HO1477; clear HO1480; clear BK1438; clear BK1482; clear HB; have HO1477 := n0_; have HO1480 := n1_; have BK1438 := n2_; have BK1482 := n3_; have HB := n4_; clear n0_ n1_ n2_ n3_ n4_; (try clear hb); (try clear hb2); (try clear hk); (try clear hi)) | ((with_reducible refine Zr (f := 59) rfl ?_); refine Yg (some 61) rfl rfl Try.func59 (by kernel_rfl) rfl #[.string t1483] rfl (by (try simp only [List.map_toArray, List.map_cons, List.map_nil]); first | done | rfl | (simp only [List.length_drop, List.length_take]; rfl)) ?_; (with_reducible refine (ratio_Read.calls kj9 t1483 t1485 t1486 t1489 t1492 _ A44.out).mono ?_); rintro e w55 ⟨v1487, v1490, rfl, ho0, ho1, hb⟩; refine ⟨_, rfl, ?_⟩; have n0_ := Yt.mk (Kd.Zv (Kd.Yl (Kd.Yl (Kd.R_old (by (with_reducible repeat (first | apply Kd.Zf | apply Kd.Ze | apply Kd.Zj)); exact HO1477.out) hb) (Kd.Zw ho0)) (Kd.Zw ho1)) (fun _ h_ => h_.1)); have n1_ := Yt.mk (Kd.Zv (Kd.Yl (Kd.Yl (Kd.R_old (by (with_reducible repeat (first | apply Kd.Zf | apply Kd.Ze | apply Kd.Zj)); exact HO1480.out) hb) (Kd.Zw ho0)) (Kd.Zw ho1)) (fun _ h_ => h_.1)); have n2_ := Yt.mk (Kd.Yb (Kd.Ya (Kd.Ya ho0 (Kd.R_lt (by (with_reducible repeat (first | apply Kd.Zf | apply Kd.Ze | apply Kd.Zj)); exact HO1477.out))) (Kd.R_lt (by (with_reducible repeat (first | apply Kd.Zf | apply Kd.Ze | apply Kd.Zj)); exact HO1480.out))) (Zk (by repeat (first | (with_reducible first | exact HB.out | apply Zb | apply Za | apply Zc | refine Zd ?_ GE1438.out | refine Zd ?_ GE1482.out) | exact HB.out)))); have n3_ := Yt.mk (Kd.Yb (Kd.Ya (Kd.Ya ho1 (Kd.R_lt (by (with_reducible repeat (first | apply Kd.Zf | apply Kd.Ze | apply Kd.Zj)); exact HO1477.out))) (Kd.R_lt (by (with_reducible repeat (first | apply Kd.Zf | apply Kd.Ze | apply Kd.Zj)); exact HO1480.out))) (Zk (by repeat (first | (with_reducible first | exact HB.out | apply Zb | apply Za | apply Zc | refine Zd ?_ GE1438.out | refine Zd ?_ GE1482.out) | exact HB.out)))); have n4_ := Yt.mk (Zq (g := gb1438) (o := .cells #[.bool a0_0, .slice A0_1 l0_1.length c0_1, .slice A0_2 l0_2.length c0_2] 50 (0, 0)) (by (with_reducible repeat (first | refine Zg ?_ _ | refine Zi ?_ | refine Zh ?_ _)); exact BK1438.out) hb); have n5_ := Yt.mk (Zq (g := gb1482) (o := .cells #[.bool t1474, .slice Ao52 t1475.length co52, .slice Ao53 t1478.length co53] 50 (0, 0)) (by (with_reducible repeat (first | refine Zg ?_ _ | refine Zi ?_ | refine Zh ?_ _)); exact BK1482.out) hb); have n6_ := Yt.mk (Zm (by repeat (first | (with_reducible first | exact HB.out | apply Zb | apply Za | apply Zc | refine Zd ?_ GE1438.out | refine Zd ?_ GE1482.out) | exact HB.out)) hb); clear HO1477; clear HO1480; clear BK1438; clear BK1482; clear HB; have HO1477 := n0_; have HO1480 := n1_; have HO1488 := n2_; have HO1491 := n3_; have BK1438 := n4_; have BK1482 := n5_; have HB := n6_; clear n0_ n1_ n2_ n3_ n4_ n5_ n6_; (try clear hb); (try clear hb2); (try clear hk); (try clear hi); (try clear ho0); (try clear ho1)) | ((with_reducible refine Yk (N := 13) rfl ?_); refine Yo ?hg (N := 13) ?hd (cs := #[.bool false, .slice none 0 0, .slice none 0 0]) (t := 50) ?hr ?_; (case hd => rfl); (case hg => rfl); (case hr => first | (go_simp; done) | (go_simp; rfl)); intro gb1493 hg w56 hbox hb; have n0_ := Yt.mk (Kd.Yd (by (with_reducible repeat (first | apply Kd.Zf | apply Kd.Ze | apply Kd.Zj)); exact HO1477.out) hb); have n1_ := Yt.mk (Kd.Yd (by (with_reducible repeat (first | apply Kd.Zf | apply Kd.Ze | apply Kd.Zj)); exact HO1480.out) hb); have n2_ := Yt.mk (Kd.Yd (by (with_reducible repeat (first | apply Kd.Zf | apply Kd.Ze | apply Kd.Zj)); exact HO1488.out) hb); have n3_ := Yt.mk (Kd.Yd (by (with_reducible repeat (first | apply Kd.Zf | apply Kd.Ze | apply Kd.Zj)); exact HO1491.out) hb); have n4_ := Yt.mk (Zq (g := gb1438) (o := .cells #[.bool a0_0, .slice A0_1 l0_1.length c0_1, .slice A0_2 l0_2.length c0_2] 50 (0, 0)) (by (with_reducible repeat (first | refine Zg ?_ _ | refine Zi ?_ | refine Zh ?_ _)); exact BK1438.out) hb); have n5_ := Yt.mk (Zq (g := gb1482) (o := .cells #[.bool t1474, .slice Ao52 t1475.length co52, .slice Ao53 t1478.length co53] 50 (0, 0)) (by (with_reducible repeat (first | refine Zg ?_ _ | refine Zi ?_ | refine Zh ?_ _)); exact BK1482.out) hb); have n6_ := Yt.mk (Zm (by repeat (first | (with_reducible first | exact HB.out | apply Zb | apply Za | apply Zc | refine Zd ?_ GE1438.out | refine Zd ?_ GE1482.out) | exact HB.out)) hb); have n7_ := Yt.mk (hbox); have n8_ := Yt.mk ((by rw [hg]; exact (Zk (by repeat (first | (with_reducible first | exact HB.out | apply Zb | apply Za | apply Zc | refine Zd ?_ GE1438.out | refine Zd ?_ GE1482.out) | exact HB.out))) : w.heap.size ≤ gb1493)); have n9_ := Yt.mk ((by rw [hg]; exact (Zk (by repeat (first | (with_reducible first | exact HB.out | apply Zb | apply Za | apply Zc | refine Zd ?_ GE1438.out | refine Zd ?_ GE1482.out) | exact HB.out))) : w.heap.size ≤ gb1493)); have n10_ := Yt.mk ((by rw [hg]; exact Nat.ne_of_lt (blk_lt (g := gb1438) (o := .cells #[.bool a0_0, .slice A0_1 l0_1.length c0_1, .slice A0_2 l0_2.length c0_2] 50 (0, 0)) (by (with_reducible repeat (first | refine Zg ?_ _ | refine Zi ?_ | refine Zh ?_ _)); exact BK1438.out)) : gb1438 ≠ gb1493)); have n11_ := Yt.mk ((by rw [hg]; exact Nat.ne_of_gt (blk_lt (g := gb1438) (o := .cells #[.bool a0_0, .slice A0_1 l0_1.length c0_1, .slice A0_2 l0_2.length c0_2] 50 (0, 0)) (by (with_reducible repeat (first | refine Zg ?_ _ | refine Zi ?_ | refine Zh ?_ _)); exact BK1438.out)) : gb1493 ≠ gb1438)); have n12_ := Yt.mk ((by rw [hg]; exact Nat.ne_of_lt (blk_lt (g := gb1482) (o := .cells #[.bool t1474, .slice Ao52 t1475.length co52, .slice Ao53 t1478.length co53] 50 (0, 0)) (by (with_reducible repeat (first | refine Zg ?_ _ | refine Zi ?_ | refine Zh ?_ _)); exact BK1482.out)) : gb1482 ≠ gb1493)); have n13_ := Yt.mk ((by rw [hg]; exact Nat.ne_of_gt (blk_lt (g := gb1482) (o := .cells #[.bool t1474, .slice Ao52 t1475.length co52, .slice Ao53 t1478.length co53] 50 (0, 0)) (by (with_reducible repeat (first | refine Zg ?_ _ | refine Zi ?_ | refine Zh ?_ _)); exact BK1482.out)) : gb1493 ≠ gb1482)); clear HO1477; clear HO1480; clear HO1488; clear HO1491; clear BK1438; clear BK1482; clear HB; have HO1477 := n0_; have HO1480 := n1_; have HO1488 := n2_; have HO1491 := n3_; have BK1438 := n4_; have BK1482 := n5_; have HB := n6_; have BK1493 := n7_; have GW1493 := n8_; have GE1493 := n9_; have NB1438_1493 := n10_; have NB1493_1438 := n11_; have NB1482_1493 := n12_; have NB1493_1482 := n13_; clear n0_ n1_ n2_ n3_ n4_ n5_ n6_ n7_ n8_ n9_ n10_ n11_ n12_ n13_; clear hb hbox hg; have hnb57 := NB1493_1438.out; have hnc57 := NB1438_1493.out; have hnb58 := NB1493_1482.out; have hnc58 := NB1482_1493.out; have hcz59_0 : w56.cell? ⟨gb1493, 0, none⟩ = some (.bool false) := (Zl BK1493.out 0).trans rfl; have hcz59_1 : w56.cell? ⟨gb1493, 1, none⟩ = some (.slice none 0 0) := (Zl BK1493.out 1).trans rfl; have hcz59_2 : w56.cell? ⟨gb1493, 2, none⟩ = some (.slice none 0 0) := (Zl BK1493.out 2).trans rfl; have hfz59_0 := Zn BK1493.out 0; have hfz59_1 := Zn BK1493.out 1; have hfz59_2 := Zn BK1493.out 2; obtain ⟨Ao60, co60, eo60⟩ := Kd.Zx HO1488.out; subst eo60; obtain ⟨Ao61, co61, eo61⟩ := Kd.Zx HO1491.out; subst eo61; have hcz62_0 : w56.cell? ⟨gb1482, 0, none⟩ = some (.bool t1474) := (Zl BK1482.out 0).trans rfl; have hcz62_1 : w56.cell? ⟨gb1482, 1, none⟩ = some (.slice Ao52 t1475.length co52) := (Zl BK1482.out 1).trans rfl; have hcz62_2 : w56.cell? ⟨gb1482, 2, none⟩ = some (.slice Ao53 t1478.length co53) := (Zl BK1482.out 2).trans rfl; have hfz62_0 := Zn BK1482.out 0; have hfz62_1 := Zn BK1482.out 1; have hfz62_2 := Zn BK1482.out 2) | (go_at_call 53; (with_reducible refine (ratio_Same.calls kj9 t1474 _ _ t1475 _ _ t1478 t1485 _ _ t1486 _ _ t1489 t1494 _ ?side1 ?side2 ?side3 ?side4 ?side5 ?side6 ?side7 ?side8 A47.out).mono ?_); (case side1 => refine (Kd.Zs (e := 47) (base := w.heap.size) (ok := fun k_ => ((some k_ ≠ (.slice Ao53 t1478.length co53 : Value).ownBlock ∧ some k_ ≠ (.slice Ao60 t1486.length co60 : Value).ownBlock) ∧ some k_ ≠ (.slice Ao61 t1489.length co61 : Value).ownBlock)) (n := t1475.length) (c := co52) ?_).2.2; exact (by (with_reducible repeat (first | apply Kd.Zf | apply Kd.Ze | apply Kd.Zj)); exact (Kd.Zv (Kd.Yh (p := ⟨gb1493, 2, none⟩) (Kd.Yh (p := ⟨gb1493, 1, none⟩) (Kd.Yh (p := ⟨gb1493, 0, none⟩) (Kd.Yq HO1477.out BK1493.out (by decide)) (fun _ hk => hk.2) (.bool t1485)) (fun _ hk => hk.2) (.slice Ao60 t1486.length co60)) (fun _ hk => hk.2) (.slice Ao61 t1489.length co61)) (fun _ h_ => h_.1)))); (case side2 => exact (Kd.Zs HO1477.out).2.1); (case side3 => refine (Kd.Zs (e := 47) (base := w.heap.size) (ok := fun k_ => ((some k_ ≠ (.slice Ao52 t1475.length co52 : Value).ownBlock ∧ some k_ ≠ (.slice Ao60 t1486.length co60 : Value).ownBlock) ∧ some k_ ≠ (.slice Ao61 t1489.length co61 : Value).ownBlock)) (n := t1478.length) (c := co53) ?_).2.2; exact (by (with_reducible repeat (first | apply Kd.Zf | apply Kd.Ze | apply Kd.Zj)); exact (Kd.Zv (Kd.Yh (p := ⟨gb1493, 2, none⟩) (Kd.Yh (p := ⟨gb1493, 1, none⟩) (Kd.Yh (p := ⟨gb1493, 0, none⟩) (Kd.Yq HO1480.out BK1493.out (by decide)) (fun _ hk => hk.2) (.bool t1485)) (fun _ hk => hk.2) (.slice Ao60 t1486.length co60)) (fun _ hk => hk.2) (.slice Ao61 t1489.length co61)) (fun _ h_ => h_.1)))); (case side4 => exact (Kd.Zs HO1480.out).2.1); (case side5 => refine (Kd.Zs (e := 47) (base := w.heap.size) (ok := fun k_ => ((some k_ ≠ (.slice Ao61 t1489.length co61 : Value).ownBlock ∧ some k_ ≠ (.slice Ao52 t1475.length co52 : Value).ownBlock) ∧ some k_ ≠ (.slice Ao53 t1478.length co53 : Value).ownBlock)) (n := t1486.length) (c := co60) ?_).2.2; exact (by (with_reducible repeat (first | apply Kd.Zf | apply Kd.Ze | apply Kd.Zj)); exact (Kd.Zv (Kd.Yh (p := ⟨gb1493, 2, none⟩) (Kd.Yh (p := ⟨gb1493, 1, none⟩) (Kd.Yh (p := ⟨gb1493, 0, none⟩) (Kd.Yq HO1488.out BK1493.out (by decide)) (fun _ hk => hk.2) (.bool t1485)) (fun _ hk => hk.2) (.slice Ao60 t1486.length co60)) (fun _ hk => hk.2) (.slice Ao61 t1489.length co61)) (fun _ h_ => h_.1)))); (case side6 => exact (Kd.Zs HO1488.out).2.1); (case side7 => refine (Kd.Zs (e := 47) (base := w.heap.size) (ok := fun k_ => ((some k_ ≠ (.slice Ao60 t1486.length co60 : Value).ownBlock ∧ some k_ ≠ (.slice Ao52 t1475.length co52 : Value).ownBlock) ∧ some k_ ≠ (.slice Ao53 t1478.length co53 : Value).ownBlock)) (n := t1489.length) (c := co61) ?_).2.2; exact (by (with_reducible repeat (first | apply Kd.Zf | apply Kd.Ze | apply Kd.Zj)); exact (Kd.Zv (Kd.Yh (p := ⟨gb1493, 2, none⟩) (Kd.Yh (p := ⟨gb1493, 1, none⟩) (Kd.Yh (p := ⟨gb1493, 0, none⟩) (Kd.Yq HO1491.out BK1493.out (by decide)) (fun _ hk => hk.2) (.bool t1485)) (fun _ hk => hk.2) (.slice Ao60 t1486.length co60)) (fun _ hk => hk.2) (.slice Ao61 t1489.length co61)) (fun _ h_ => h_.1)))); (case side8 => exact (Kd.Zs HO1491.out).2.1); rintro e w63 ⟨rfl, hb⟩; have n0_ := Yt.mk (Kd.Yd (by (with_reducible repeat (first | apply Kd.Zf | apply Kd.Ze | apply Kd.Zj)); exact (Kd.Zv (Kd.Yh (p := ⟨gb1493, 2, none⟩) (Kd.Yh (p := ⟨gb1493, 1, none⟩) (Kd.Yh (p := ⟨gb1493, 0, none⟩) (Kd.Yq HO1477.out BK1493.out (by decide)) (fun _ hk => hk.2) (.bool t1485)) (fun _ hk => hk.2) (.slice Ao60 t1486.length co60)) (fun _ hk => hk.2) (.slice Ao61 t1489.length co61)) (fun _ h_ => h_.1))) hb); have n1_ := Yt.mk (Kd.Yd (by (with_reducible repeat (first | apply Kd.Zf | apply Kd.Ze | apply Kd.Zj)); exact (Kd.Zv (Kd.Yh (p := ⟨gb1493, 2, none⟩) (Kd.Yh (p := ⟨gb1493, 1, none⟩) (Kd.Yh (p := ⟨gb1493, 0, none⟩) (Kd.Yq HO1480.out BK1493.out (by decide)) (fun _ hk => hk.2) (.bool t1485)) (fun _ hk => hk.2) (.slice Ao60 t1486.length co60)) (fun _ hk => hk.2) (.slice Ao61 t1489.length co61)) (fun _ h_ => h_.1))) hb); have n2_ := Yt.mk (Kd.Yd (by (with_reducible repeat (first | apply Kd.Zf | apply Kd.Ze | apply Kd.Zj)); exact (Kd.Zv (Kd.Yh (p := ⟨gb1493, 2, none⟩) (Kd.Yh (p := ⟨gb1493, 1, none⟩) (Kd.Yh (p := ⟨gb1493, 0, none⟩) (Kd.Yq HO1488.out BK1493.out (by decide)) (fun _ hk => hk.2) (.bool t1485)) (fun _ hk => hk.2) (.slice Ao60 t1486.length co60)) (fun _ hk => hk.2) (.slice Ao61 t1489.length co61)) (fun _ h_ => h_.1))) hb); have n3_ := Yt.mk (Kd.Yd (by (with_reducible repeat (first | apply Kd.Zf | apply Kd.Ze | apply Kd.Zj)); exact (Kd.Zv (Kd.Yh (p := ⟨gb1493, 2, none⟩) (Kd.Yh (p := ⟨gb1493, 1, none⟩) (Kd.Yh (p := ⟨gb1493, 0, none⟩) (Kd.Yq HO1491.out BK1493.out (by decide)) (fun _ hk => hk.2) (.bool t1485)) (fun _ hk => hk.2) (.slice Ao60 t1486.length co60)) (fun _ hk => hk.2) (.slice Ao61 t1489.length co61)) (fun _ h_ => h_.1))) hb); have n4_ := Yt.mk (Zq (g := gb1438) (o := .cells #[.bool a0_0, .slice A0_1 l0_1.length c0_1, .slice A0_2 l0_2.length c0_2] 50 (0, 0)) (by (with_reducible repeat (first | refine Zg ?_ _ | refine Zi ?_ | refine Zh ?_ _)); refine blk_far ?_ NB1438_1493.out _; (with_reducible repeat (first | refine Zg ?_ _ | refine Zi ?_ | refine Zh ?_ _)); refine blk_far ?_ NB1438_1493.out _; (with_reducible repeat (first | refine Zg ?_ _ | refine Zi ?_ | refine Zh ?_ _)); refine blk_far ?_ NB1438_1493.out _; (with_reducible repeat (first | refine Zg ?_ _ | refine Zi ?_ | refine Zh ?_ _)); exact BK1438.out) hb); have n5_ := Yt.mk (Zq (g := gb1482) (o := .cells #[.bool t1474, .slice Ao52 t1475.length co52, .slice Ao53 t1478.length co53] 50 (0, 0)) (by (with_reducible repeat (first | refine Zg ?_ _ | refine Zi ?_ | refine Zh ?_ _)); refine blk_far ?_ NB1482_1493.out _; (with_reducible repeat (first | refine Zg ?_ _ | refine Zi ?_ | refine Zh ?_ _)); refine blk_far ?_ NB1482_1493.out _; (with_reducible repeat (first | refine Zg ?_ _ | refine Zi ?_ | refine Zh ?_ _)); refine blk_far ?_ NB1482_1493.out _; (with_reducible repeat (first | refine Zg ?_ _ | refine Zi ?_ | refine Zh ?_ _)); exact BK1482.out) hb); have n6_ := Yt.mk (Zq (g := gb1493) (o := .cells #[.bool t1485, .slice Ao60 t1486.length co60, .slice Ao61 t1489.length co61] 50 (0, 0)) (by (with_reducible repeat (first | refine Zg ?_ _ | refine Zi ?_ | refine Zh ?_ _)); refine Ym (cs := #[.bool t1485, .slice Ao60 t1486.length co60, .slice none 0 0]) ?_ 2 _ rfl; (with_reducible repeat (first | refine Zg ?_ _ | refine Zi ?_ | refine Zh ?_ _)); refine Ym (cs := #[.bool t1485, .slice none 0 0, .slice none 0 0]) ?_ 1 _ rfl; (with_reducible repeat (first | refine Zg ?_ _ | refine Zi ?_ | refine Zh ?_ _)); refine Ym (cs := #[.bool false, .slice none 0 0, .slice none 0 0]) ?_ 0 _ rfl; (with_reducible repeat (first | refine Zg ?_ _ | refine Zi ?_ | refine Zh ?_ _)); exact BK1493.out) hb); have n7_ := Yt.mk (Zm (by repeat (first | (with_reducible first | exact HB.out | apply Zb | apply Za | apply Zc | refine Zd ?_ GE1438.out | refine Zd ?_ GE1482.out | refine Zd ?_ GE1493.out) | exact HB.out)) hb); clear HO1477; clear HO1480; clear HO1488; clear HO1491; clear BK1438; clear BK1482; clear BK1493; clear HB; have HO1477 := n0_; have HO1480 := n1_; have HO1488 := n2_; have HO1491 := n3_; have BK1438 := n4_; have BK1482 := n5_; have BK1493 := n6_; have HB := n7_; clear n0_ n1_ n2_ n3_ n4_ n5_ n6_ n7_; (try clear hb); (try clear hb2); (try clear hk); (try clear hi)))
        go_ret
        exact ⟨by first | rfl | (simp [Zp, Zo] <;> rfl) | (simp [*, Zp, Zo] <;> rfl), by repeat (first | (with_reducible first | exact HB.out | apply Zb | apply Za | apply Zc | refine Zd ?_ GE1438.out | refine Zd ?_ GE1482.out | refine Zd ?_ GE1493.out) | exact HB.out)⟩
       ·rw [if_neg c46] at H
        exact absurd H (by simp)
      ·rw [if_neg c45] at H
       exact absurd H (by simp)
     ·rw [if_neg c42] at H
      have c42b0 : (t1481 == 0) = false := beq_eq_false_iff_ne.mpr c42
      have c42b1 : (t1481 != 0) = true := bne_iff_ne.mpr c42
      replace H := Option.bind_eq_some_iff.mp H
      obtain ⟨t1495, A640, H⟩ := H
      replace H : (some t1495) = some r := H
      have A64 := Yt.mk A640
      clear A640
      obtain rfl := Option.some.inj H
      go_wp2_with (first | ((with_reducible refine Zr (f := 59) rfl ?_); refine Yg (some 47) rfl rfl Try.func59 (by kernel_rfl) rfl #[.string a1] rfl (by (try simp only [List.map_toArray, List.map_cons, List.map_nil]); first | done | rfl | (simp only [List.length_drop, List.length_take]; rfl)) ?_; (with_reducible refine (ratio_Read.calls kj9 a1 t1474 t1475 t1478 t1481 _ A41.out).mono ?_); rintro e w65 ⟨v1476, v1479, rfl, ho0, ho1, hb⟩; refine ⟨_, rfl, ?_⟩; have n0_ := Yt.mk (Kd.Yb ho0 (Zk (by repeat (first | (with_reducible first | exact HB.out | apply Zb | apply Za | apply Zc | refine Zd ?_ GE1438.out) | exact HB.out)))); have n1_ := Yt.mk (Kd.Yb ho1 (Zk (by repeat (first | (with_reducible first | exact HB.out | apply Zb | apply Za | apply Zc | refine Zd ?_ GE1438.out) | exact HB.out)))); have n2_ := Yt.mk (Zq (g := gb1438) (o := .cells #[.bool a0_0, .slice A0_1 l0_1.length c0_1, .slice A0_2 l0_2.length c0_2] 50 (0, 0)) (by (with_reducible repeat (first | refine Zg ?_ _ | refine Zi ?_ | refine Zh ?_ _)); exact BK1438.out) hb); have n3_ := Yt.mk (Zm (by repeat (first | (with_reducible first | exact HB.out | apply Zb | apply Za | apply Zc | refine Zd ?_ GE1438.out) | exact HB.out)) hb); clear BK1438; clear HB; have HO1477 := n0_; have HO1480 := n1_; have BK1438 := n2_; have HB := n3_; clear n0_ n1_ n2_ n3_; (try clear hb); (try clear hb2); (try clear hk); (try clear hi); (try clear ho0); (try clear ho1)) | ((with_reducible refine Yk (N := 9) rfl ?_); refine Yo ?hg (N := 9) ?hd (cs := #[.bool false, .slice none 0 0, .slice none 0 0]) (t := 50) ?hr ?_; (case hd => rfl); (case hg => rfl); (case hr => first | (go_simp; done) | (go_simp; rfl)); intro gb1482 hg w66 hbox hb; have n0_ := Yt.mk (Kd.Yd (by (with_reducible repeat (first | apply Kd.Zf | apply Kd.Ze | apply Kd.Zj)); exact HO1477.out) hb); have n1_ := Yt.mk (Kd.Yd (by (with_reducible repeat (first | apply Kd.Zf | apply Kd.Ze | apply Kd.Zj)); exact HO1480.out) hb); have n2_ := Yt.mk (Zq (g := gb1438) (o := .cells #[.bool a0_0, .slice A0_1 l0_1.length c0_1, .slice A0_2 l0_2.length c0_2] 50 (0, 0)) (by (with_reducible repeat (first | refine Zg ?_ _ | refine Zi ?_ | refine Zh ?_ _)); exact BK1438.out) hb); have n3_ := Yt.mk (Zm (by repeat (first | (with_reducible first | exact HB.out | apply Zb | apply Za | apply Zc | refine Zd ?_ GE1438.out) | exact HB.out)) hb); have n4_ := Yt.mk (hbox); have n5_ := Yt.mk ((by rw [hg]; exact (Zk (by repeat (first | (with_reducible first | exact HB.out | apply Zb | apply Za | apply Zc | refine Zd ?_ GE1438.out) | exact HB.out))) : w.heap.size ≤ gb1482)); have n6_ := Yt.mk ((by rw [hg]; exact (Zk (by repeat (first | (with_reducible first | exact HB.out | apply Zb | apply Za | apply Zc | refine Zd ?_ GE1438.out) | exact HB.out))) : w.heap.size ≤ gb1482)); have n7_ := Yt.mk ((by rw [hg]; exact Nat.ne_of_lt (blk_lt (g := gb1438) (o := .cells #[.bool a0_0, .slice A0_1 l0_1.length c0_1, .slice A0_2 l0_2.length c0_2] 50 (0, 0)) (by (with_reducible repeat (first | refine Zg ?_ _ | refine Zi ?_ | refine Zh ?_ _)); exact BK1438.out)) : gb1438 ≠ gb1482)); have n8_ := Yt.mk ((by rw [hg]; exact Nat.ne_of_gt (blk_lt (g := gb1438) (o := .cells #[.bool a0_0, .slice A0_1 l0_1.length c0_1, .slice A0_2 l0_2.length c0_2] 50 (0, 0)) (by (with_reducible repeat (first | refine Zg ?_ _ | refine Zi ?_ | refine Zh ?_ _)); exact BK1438.out)) : gb1482 ≠ gb1438)); clear HO1477; clear HO1480; clear BK1438; clear HB; have HO1477 := n0_; have HO1480 := n1_; have BK1438 := n2_; have HB := n3_; have BK1482 := n4_; have GW1482 := n5_; have GE1482 := n6_; have NB1438_1482 := n7_; have NB1482_1438 := n8_; clear n0_ n1_ n2_ n3_ n4_ n5_ n6_ n7_ n8_; clear hb hbox hg; have hnb67 := NB1482_1438.out; have hnc67 := NB1438_1482.out; have hcz68_0 : w66.cell? ⟨gb1482, 0, none⟩ = some (.bool false) := (Zl BK1482.out 0).trans rfl; have hcz68_1 : w66.cell? ⟨gb1482, 1, none⟩ = some (.slice none 0 0) := (Zl BK1482.out 1).trans rfl; have hcz68_2 : w66.cell? ⟨gb1482, 2, none⟩ = some (.slice none 0 0) := (Zl BK1482.out 2).trans rfl; have hfz68_0 := Zn BK1482.out 0; have hfz68_1 := Zn BK1482.out 1; have hfz68_2 := Zn BK1482.out 2; obtain ⟨Ao69, co69, eo69⟩ := Kd.Zx HO1477.out; subst eo69; obtain ⟨Ao70, co70, eo70⟩ := Kd.Zx HO1480.out; subst eo70) | ((with_reducible refine Zr (f := 61) rfl ?_); refine Yg (some 53) rfl rfl Try.func61 (by kernel_rfl) rfl #[.agg #[.bool t1474, .slice Ao69 t1475.length co69, .slice Ao70 t1478.length co70]] rfl (by (try simp only [List.map_toArray, List.map_cons, List.map_nil]); first | done | rfl | (simp only [List.length_drop, List.length_take]; rfl)) ?_; (with_reducible refine (sibylref02_Zero.calls t1474 _ _ t1475 _ _ t1478 t1495 _ ?side1 ?side2 ?side3 ?side4 A64.out).mono ?_); (case side1 => refine (Kd.Zs (e := 47) (base := w.heap.size) (ok := fun k_ => some k_ ≠ (.slice Ao70 t1478.length co70 : Value).ownBlock) (n := t1475.length) (c := co69) ?_).2.2; exact (by (with_reducible repeat (first | apply Kd.Zf | apply Kd.Ze | apply Kd.Zj)); exact (Kd.Zv (Kd.Yh (p := ⟨gb1482, 2, none⟩) (Kd.Yh (p := ⟨gb1482, 1, none⟩) (Kd.Yh (p := ⟨gb1482, 0, none⟩) (Kd.Yq HO1477.out BK1482.out (by decide)) (fun _ hk => hk.2) (.bool t1474)) (fun _ hk => hk.2) (.slice Ao69 t1475.length co69)) (fun _ hk => hk.2) (.slice Ao70 t1478.length co70)) (fun _ h_ => h_.1)))); (case side2 => exact (Kd.Zs HO1477.out).2.1); (case side3 => refine (Kd.Zs (e := 47) (base := w.heap.size) (ok := fun k_ => some k_ ≠ (.slice Ao69 t1475.length co69 : Value).ownBlock) (n := t1478.length) (c := co70) ?_).2.2; exact (by (with_reducible repeat (first | apply Kd.Zf | apply Kd.Ze | apply Kd.Zj)); exact (Kd.Zv (Kd.Yh (p := ⟨gb1482, 2, none⟩) (Kd.Yh (p := ⟨gb1482, 1, none⟩) (Kd.Yh (p := ⟨gb1482, 0, none⟩) (Kd.Yq HO1480.out BK1482.out (by decide)) (fun _ hk => hk.2) (.bool t1474)) (fun _ hk => hk.2) (.slice Ao69 t1475.length co69)) (fun _ hk => hk.2) (.slice Ao70 t1478.length co70)) (fun _ h_ => h_.1)))); (case side4 => exact (Kd.Zs HO1480.out).2.1); rintro e w71 ⟨rfl, hb⟩; refine ⟨_, rfl, ?_⟩; have n0_ := Yt.mk (Kd.Yd (by (with_reducible repeat (first | apply Kd.Zf | apply Kd.Ze | apply Kd.Zj)); exact (Kd.Zv (Kd.Yh (p := ⟨gb1482, 2, none⟩) (Kd.Yh (p := ⟨gb1482, 1, none⟩) (Kd.Yh (p := ⟨gb1482, 0, none⟩) (Kd.Yq HO1477.out BK1482.out (by decide)) (fun _ hk => hk.2) (.bool t1474)) (fun _ hk => hk.2) (.slice Ao69 t1475.length co69)) (fun _ hk => hk.2) (.slice Ao70 t1478.length co70)) (fun _ h_ => h_.1))) hb); have n1_ := Yt.mk (Kd.Yd (by (with_reducible repeat (first | apply Kd.Zf | apply Kd.Ze | apply Kd.Zj)); exact (Kd.Zv (Kd.Yh (p := ⟨gb1482, 2, none⟩) (Kd.Yh (p := ⟨gb1482, 1, none⟩) (Kd.Yh (p := ⟨gb1482, 0, none⟩) (Kd.Yq HO1480.out BK1482.out (by decide)) (fun _ hk => hk.2) (.bool t1474)) (fun _ hk => hk.2) (.slice Ao69 t1475.length co69)) (fun _ hk => hk.2) (.slice Ao70 t1478.length co70)) (fun _ h_ => h_.1))) hb); have n2_ := Yt.mk (Zq (g := gb1438) (o := .cells #[.bool a0_0, .slice A0_1 l0_1.length c0_1, .slice A0_2 l0_2.length c0_2] 50 (0, 0)) (by (with_reducible repeat (first | refine Zg ?_ _ | refine Zi ?_ | refine Zh ?_ _)); refine blk_far ?_ NB1438_1482.out _; (with_reducible repeat (first | refine Zg ?_ _ | refine Zi ?_ | refine Zh ?_ _)); refine blk_far ?_ NB1438_1482.out _; (with_reducible repeat (first | refine Zg ?_ _ | refine Zi ?_ | refine Zh ?_ _)); refine blk_far ?_ NB1438_1482.out _; (with_reducible repeat (first | refine Zg ?_ _ | refine Zi ?_ | refine Zh ?_ _)); exact BK1438.out) hb); have n3_ := Yt.mk (Zq (g := gb1482) (o := .cells #[.bool t1474, .slice Ao69 t1475.length co69, .slice Ao70 t1478.length co70] 50 (0, 0)) (by (with_reducible repeat (first | refine Zg ?_ _ | refine Zi ?_ | refine Zh ?_ _)); refine Ym (cs := #[.bool t1474, .slice Ao69 t1475.length co69, .slice none 0 0]) ?_ 2 _ rfl; (with_reducible repeat (first | refine Zg ?_ _ | refine Zi ?_ | refine Zh ?_ _)); refine Ym (cs := #[.bool t1474, .slice none 0 0, .slice none 0 0]) ?_ 1 _ rfl; (with_reducible repeat (first | refine Zg ?_ _ | refine Zi ?_ | refine Zh ?_ _)); refine Ym (cs := #[.bool false, .slice none 0 0, .slice none 0 0]) ?_ 0 _ rfl; (with_reducible repeat (first | refine Zg ?_ _ | refine Zi ?_ | refine Zh ?_ _)); exact BK1482.out) hb); have n4_ := Yt.mk (Zm (by repeat (first | (with_reducible first | exact HB.out | apply Zb | apply Za | apply Zc | refine Zd ?_ GE1438.out | refine Zd ?_ GE1482.out) | exact HB.out)) hb); clear HO1477; clear HO1480; clear BK1438; clear BK1482; clear HB; have HO1477 := n0_; have HO1480 := n1_; have BK1438 := n2_; have BK1482 := n3_; have HB := n4_; clear n0_ n1_ n2_ n3_ n4_; (try clear hb); (try clear hb2); (try clear hk); (try clear hi)))
      go_ret
      exact ⟨by first | rfl | (simp [Zp, Zo] <;> rfl) | (simp [*, Zp, Zo] <;> rfl), by repeat (first | (with_reducible first | exact HB.out | apply Zb | apply Za | apply Zc | refine Zd ?_ GE1438.out | refine Zd ?_ GE1482.out) | exact HB.out)⟩
 ·replace c4 := Bool.eq_false_iff.mpr c4
  subst c4
  have H1 : (none) = some r := by rw [if_neg (show ¬ (false = true) by decide)] at H; exact H
  clear H
  have H := H1
  clear H1
  exact absurd H (by simp)
end Go.Proofs.Ytgffficaoioljaa.P
end
section
namespace Go.Proofs.Ytgffficaoioljaa.PlN
open Go.RowKit Go.Proofs.Ytgffficaoioljaa.P Go.Proofs.YtgffficaoioljaaW.PrintWords Go.Proofs.YtgffficaoioljaaW.PrintLast Go.Proofs.YtgffficaoioljaaW.PrintMore
theorem wakes2_at : sibyllaw02_wakes.f 100 = some true := by decide +kernel
theorem wakes2 : Ev (fun k => sibyllaw02_wakes.f k) true := Ev.of sibyllaw02_wakes.mono wakes2_at
end Go.Proofs.Ytgffficaoioljaa.PlN
end
