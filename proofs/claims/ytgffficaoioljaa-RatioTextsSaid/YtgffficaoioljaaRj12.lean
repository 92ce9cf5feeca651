import Derived.Test.YtgffficaoioljaaRj11
section
namespace Go.Proofs.Ytgffficaoioljaa.P
open Go.RowKit Go.Proofs.YtgffficaoioljaaW.PrintWords Go.Proofs.YtgffficaoioljaaW.PrintLast Go.Proofs.YtgffficaoioljaaW.PrintMore
attribute [local go_sem] max2_int min2_int max_two min_two max_three min_three max_four min_four
set_option linter.unusedVariables false
set_option linter.unusedSimpArgs false
set_option maxHeartbeats 8000000
set_option maxRecDepth 100000
def r1_Same.l0 : Nat → List Int → List Int → Int → Option (Bool)
 | 0, _, _, _ => none
 | k + 1, x0, x1, x5 => if x5 < (x0.length : Int) then (if 0 ≤ x5 then (if x5 < (x1.length : Int) then (if (rd x0 x5) = (rd x1 x5) then (r1_Same.l0 k x0 x1 (wrap64 (x5 + 1))) else (some false)) else (none)) else (none)) else (some true)
def r1_Same.f (k : Nat) (l0 : List Int) (l1 : List Int) : Option (Bool) := if (l0.length : Int) = (l1.length : Int) then (r1_Same.l0 k l0 l1 0) else (some false)
theorem r1_Same.calls (k : Nat) (A0 : Option Addr) (c0 : Nat) (l0 : List Int) (A1 : Option Addr) (c1 : Nat) (l1 : List Int) (r : Bool) (w : World) (hr0 : Kd.C (Kd.int .u32) w A0 l0.length l0) (hc0 : l0.length ≤ c0) (hr1 : Kd.C (Kd.int .u32) w A1 l1.length l1) (hc1 : l1.length ≤ c1) (h : r1_Same.f k l0 l1 = some r) :
  Calls Try.prog 25 #[.slice A0 l0.length c0, .slice A1 l1.length c1] w fun e w' => e = .returned (.bool r) ∧ Drawn0 w w' := by
 have HR0 := Yt.mk hr0
 have HC0 := Yt.mk hc0
 clear hr0 hc0
 have HR1 := Yt.mk hr1
 have HC1 := Yt.mk hc1
 clear hr1 hc1
 unfold r1_Same.f at h
 have H := h
 clear h
 by_cases c3 : (l0.length : Int) = (l1.length : Int)
 rotate_left
 ·rw [if_neg c3] at H
  have c3b0 : ((l0.length : Int) == (l1.length : Int)) = false := beq_eq_false_iff_ne.mpr c3
  have c3b1 : ((l0.length : Int) != (l1.length : Int)) = true := bne_iff_ne.mpr c3
  have c3b2 : (l0.length == l1.length) = false := by first | simpa using c3 | (simp at c3 ⊢; omega)
  obtain rfl := Option.some.inj H
  go_enter Try.func25, Try.ntmps25
  go_wp2
  repeat (go_quiet (fail); try go_wp2)
  go_ret
  exact ⟨by first | rfl | (simp; done) | (simp [*]; done), Qa10⟩
 rw [if_pos c3] at H
 have c3b0 : ((l0.length : Int) == (l1.length : Int)) = true := beq_iff_eq.mpr c3
 have c3b1 : ((l0.length : Int) != (l1.length : Int)) = false := bne_eq_false_iff_eq.mpr c3
 have c3b2 : (l0.length == l1.length) = true := by first | simpa using c3 | (simp at c3 ⊢; omega)
 clear c3
 have H' := Yt.mk H
 clear H
 go_enter Try.func25, Try.ntmps25
 go_wp2
 repeat (go_quiet (fail); try go_wp2)
 go_loopg [5] k (fun kq v5 w' => ∃ (x5_1 : Int), v5 = .int .i64 x5_1 ∧ Yt (r1_Same.l0 kq l0 l1 x5_1 = some r) ∧ Yt (kq ≤ k) ∧ Drawn0 w w')
 case atStart => exact ⟨(0), Qa5, H', ⟨Nat.le_refl _⟩, Qa10⟩
 case round =>
  clear H'
  try clear c1; try clear c2; try clear p2; try clear c3; try clear c3b0; try clear c3b1; try clear c3b2
  obtain ⟨x5_1, rfl, HA, HK1, ⟨m1, rfl⟩⟩ := hrel
  cases gk with
  | zero => exact absurd HA.out (by simp [r1_Same.l0])
  | succ k1 =>
   have H := HA.out
   clear HA
   simp only [r1_Same.l0] at H
   by_cases c4 : x5_1 < (l0.length : Int)
   rotate_left
   ·rw [if_neg c4] at H
    have c4b0 : decide (x5_1 < (l0.length : Int)) = false := decide_eq_false c4
    clear c4
    obtain rfl := Option.some.inj H
    go_wp2
    repeat (go_quiet (fail); try go_wp2)
    go_ret
    exact ⟨by first | rfl | (simp; done) | (simp [*]; done), Qa10⟩
   rw [if_pos c4] at H
   have c4b0 : decide (x5_1 < (l0.length : Int)) = true := decide_eq_true c4
   clear c4
   by_cases c5 : 0 ≤ x5_1
   rotate_left
   ·rw [if_neg c5] at H
    exact absurd H (by simp)
   rw [if_pos c5] at H
   have c5b0 : decide (0 ≤ x5_1) = true := decide_eq_true c5
   clear c5
   by_cases c6 : x5_1 < (l1.length : Int)
   rotate_left
   ·rw [if_neg c6] at H
    exact absurd H (by simp)
   rw [if_pos c6] at H
   have c6b0 : decide (x5_1 < (l1.length : Int)) = true := decide_eq_true c6
   clear c6
   by_cases c7 : (rd l0 x5_1) = (rd l1 x5_1)
   rotate_left
   ·rw [if_neg c7] at H
    have c7b0 : ((rd l0 x5_1) == (rd l1 x5_1)) = false := beq_eq_false_iff_ne.mpr c7
    have c7b1 : ((rd l0 x5_1) != (rd l1 x5_1)) = true := bne_iff_ne.mpr c7
    obtain rfl := Option.some.inj H
    have p143 : 0 ≤ (x5_1 : Int) := Qd
    have q143 : x5_1 < (l0.length : Int) := Qd
    obtain ⟨ad143, e143, hx143_0⟩ := Kd.at_int HR0.out x5_1 p143 q143
    cases e143
    replace p143 := eq_true p143
    replace q143 := eq_true q143
    have p144 : 0 ≤ (x5_1 : Int) := Qd
    have q144 : x5_1 < (l1.length : Int) := Qd
    obtain ⟨ad144, e144, hx144_0⟩ := Kd.at_int HR1.out x5_1 p144 q144
    cases e144
    replace p144 := eq_true p144
    replace q144 := eq_true q144
    go_wp2
    repeat (go_quiet (fail); try go_wp2)
    go_ret
    exact ⟨by first | rfl | (simp; done) | (simp [*]; done), Qa10⟩
   rw [if_pos c7] at H
   have c7b0 : ((rd l0 x5_1) == (rd l1 x5_1)) = true := beq_iff_eq.mpr c7
   have c7b1 : ((rd l0 x5_1) != (rd l1 x5_1)) = false := bne_eq_false_iff_eq.mpr c7
   clear c7
   have H' := Yt.mk H
   clear H
   have p143 : 0 ≤ (x5_1 : Int) := Qd
   have q143 : x5_1 < (l0.length : Int) := Qd
   obtain ⟨ad143, e143, hx143_0⟩ := Kd.at_int HR0.out x5_1 p143 q143
   cases e143
   replace p143 := eq_true p143
   replace q143 := eq_true q143
   have p144 : 0 ≤ (x5_1 : Int) := Qd
   have q144 : x5_1 < (l1.length : Int) := Qd
   obtain ⟨ad144, e144, hx144_0⟩ := Kd.at_int HR1.out x5_1 p144 q144
   cases e144
   replace p144 := eq_true p144
   replace q144 := eq_true q144
   go_wp2
   repeat (go_quiet (fail); try go_wp2)
   go_roundg k1
   case measure => have := HK1.out; omega
   case rel => exact ⟨(wrap64 (x5_1 + 1)), Qa5, H', ⟨by have := HK1.out; omega⟩, Qa10⟩
def r2_Same.f (k : Nat) (a0_0 : Bool) (l0_1 : List Int) (l0_2 : List Int) (a1_0 : Bool) (l1_1 : List Int) (l1_2 : List Int) : Option (Bool) := if (a0_0 == a1_0) = true then ((r1_Same.f k l0_1 l1_1).bind fun t1224 => (if t1224 = true then ((r1_Same.f k l0_2 l1_2).bind fun t1225 => (some t1225)) else (some false))) else (some false)
theorem r2_Same.calls (k : Nat) (a0_0 : Bool) (A0_1 : Option Addr) (c0_1 : Nat) (l0_1 : List Int) (A0_2 : Option Addr) (c0_2 : Nat) (l0_2 : List Int) (a1_0 : Bool) (A1_1 : Option Addr) (c1_1 : Nat) (l1_1 : List Int) (A1_2 : Option Addr) (c1_2 : Nat) (l1_2 : List Int) (r : Bool) (w : World) (hr0_1 : Kd.C (Kd.int .u32) w A0_1 l0_1.length l0_1) (hc0_1 : l0_1.length ≤ c0_1) (hr0_2 : Kd.C (Kd.int .u32) w A0_2 l0_2.length l0_2) (hc0_2 : l0_2.length ≤ c0_2) (hr1_1 : Kd.C (Kd.int .u32) w A1_1 l1_1.length l1_1) (hc1_1 : l1_1.length ≤ c1_1) (hr1_2 : Kd.C (Kd.int .u32) w A1_2 l1_2.length l1_2) (hc1_2 : l1_2.length ≤ c1_2) (h : r2_Same.f k a0_0 l0_1 l0_2 a1_0 l1_1 l1_2 = some r) :
  Calls Try.prog 54 #[.agg #[.bool a0_0, .slice A0_1 l0_1.length c0_1, .slice A0_2 l0_2.length c0_2], .agg #[.bool a1_0, .slice A1_1 l1_1.length c1_1, .slice A1_2 l1_2.length c1_2]] w fun e w' => e = .returned (.bool r) ∧ Below w.heap.size w w' := by
 have hu50 := Try.underlying50
 have HR0_1 := Yt.mk hr0_1
 have HC0_1 := Yt.mk hc0_1
 clear hr0_1 hc0_1
 have HR0_2 := Yt.mk hr0_2
 have HC0_2 := Yt.mk hc0_2
 clear hr0_2 hc0_2
 have HR1_1 := Yt.mk hr1_1
 have HC1_1 := Yt.mk hc1_1
 clear hr1_1 hc1_1
 have HR1_2 := Yt.mk hr1_2
 have HC1_2 := Yt.mk hc1_2
 clear hr1_2 hc1_2
 have HB := Yt.mk (Below.refl w.heap.size w)
 unfold r2_Same.f at h
 have H := h
 clear h
 by_cases c3 : (a0_0 == a1_0) = true
 rotate_left
 ·rw [if_neg c3] at H
  have c3b0 : (a0_0 == a1_0) = false := by simpa using c3
  (try (have c3b1 : decide (a0_0 = a1_0) = false := by simpa using c3))
  (try (have c3b2 : (a0_0 == a1_0) = false := by simpa using c3))
  (try (have c3b3 : ¬ (a0_0 = a1_0) := by simpa using c3))
  clear c3
  obtain rfl := Option.some.inj H
  go_enter Try.func54, Try.ntmps54
  go_wp2_with (first | ((with_reducible refine Yk (N := 2) rfl ?_); refine Yo ?hg (N := 2) ?hd (cs := #[.bool a0_0, .slice A0_1 l0_1.length c0_1, .slice A0_2 l0_2.length c0_2]) (t := 50) ?hr ?_; (case hd => rfl); (case hg => rfl); (case hr => exact Qa8); intro gb1222 hg w17 hbox hb; have BK1222 := Yt.mk (hbox); have GW1222 := Yt.mk ((by rw [hg]; exact (Zk (Qa0)) : w.heap.size ≤ gb1222)); have GE1222 := Yt.mk ((by rw [hg]; exact (Zk (Qa0)) : w.heap.size ≤ gb1222)); replace HB := Yt.mk (Zm (Qa0) hb); clear hb hbox hg) | ((with_reducible refine Yk (N := 3) rfl ?_); refine Yo ?hg (N := 3) ?hd (cs := #[.bool a1_0, .slice A1_1 l1_1.length c1_1, .slice A1_2 l1_2.length c1_2]) (t := 50) ?hr ?_; (case hd => rfl); (case hg => rfl); (case hr => exact Qa8); intro gb1223 hg w18 hbox hb; have BK1223 := Yt.mk (hbox); have GW1223 := Yt.mk ((by rw [hg]; exact (Zk (Qa0)) : w.heap.size ≤ gb1223)); have GE1223 := Yt.mk ((by rw [hg]; exact (Zk (Qa0)) : w.heap.size ≤ gb1223)); replace HB := Yt.mk (Zm (Qa0) hb); have NB1222_1223 := Yt.mk ((by rw [hg]; exact Nat.ne_of_lt (blk_lt (g := gb1222) (o := .cells #[.bool a0_0, .slice A0_1 l0_1.length c0_1, .slice A0_2 l0_2.length c0_2] 50 (0, 0)) (Qr12 BK1222.out)) : gb1222 ≠ gb1223)); have NB1223_1222 := Yt.mk ((by rw [hg]; exact Nat.ne_of_gt (blk_lt (g := gb1222) (o := .cells #[.bool a0_0, .slice A0_1 l0_1.length c0_1, .slice A0_2 l0_2.length c0_2] 50 (0, 0)) (Qr12 BK1222.out)) : gb1223 ≠ gb1222)); replace BK1222 := Yt.mk (Zq (g := gb1222) (o := .cells #[.bool a0_0, .slice A0_1 l0_1.length c0_1, .slice A0_2 l0_2.length c0_2] 50 (0, 0)) (Qr12 BK1222.out) hb); clear hb hbox hg; have hnb19 := NB1222_1223.out; have hnc19 := NB1223_1222.out; have hcz20_0 : w18.cell? ⟨gb1222, 0, none⟩ = some (.bool a0_0) := (Zl BK1222.out 0).trans rfl; have hcz20_1 : w18.cell? ⟨gb1222, 1, none⟩ = some (.slice A0_1 l0_1.length c0_1) := (Zl BK1222.out 1).trans rfl; have hcz20_2 : w18.cell? ⟨gb1222, 2, none⟩ = some (.slice A0_2 l0_2.length c0_2) := (Zl BK1222.out 2).trans rfl; have hfz20_0 := Zn BK1222.out 0; have hfz20_1 := Zn BK1222.out 1; have hfz20_2 := Zn BK1222.out 2; have hcz21_0 : w18.cell? ⟨gb1223, 0, none⟩ = some (.bool a1_0) := (Zl BK1223.out 0).trans rfl; have hcz21_1 : w18.cell? ⟨gb1223, 1, none⟩ = some (.slice A1_1 l1_1.length c1_1) := (Zl BK1223.out 1).trans rfl; have hcz21_2 : w18.cell? ⟨gb1223, 2, none⟩ = some (.slice A1_2 l1_2.length c1_2) := (Zl BK1223.out 2).trans rfl; have hfz21_0 := Zn BK1223.out 0; have hfz21_1 := Zn BK1223.out 1; have hfz21_2 := Zn BK1223.out 2))
  go_ret
  exact ⟨Qa4, Qa0⟩
 rw [if_pos c3] at H
 have c3b0 : (a0_0 == a1_0) = true := c3
 (try (have c3b1 : decide (a0_0 = a1_0) = true := by simpa using c3))
 (try (have c3b2 : (a0_0 == a1_0) = true := by simpa using c3))
 clear c3
 replace H := Option.bind_eq_some_iff.mp H
 obtain ⟨t1224, A40, H⟩ := H
 try dsimp only at H
 have A4 := Yt.mk A40
 clear A40
 by_cases c5 : t1224 = true
 rotate_left
 ·replace c5 := Bool.eq_false_iff.mpr c5
  subst c5
  rw [if_neg (show ¬ (false = true) by decide)] at H
  obtain rfl := Option.some.inj H
  go_enter Try.func54, Try.ntmps54
  go_wp2_with (first | ((with_reducible refine Yk (N := 2) rfl ?_); refine Yo ?hg (N := 2) ?hd (cs := #[.bool a0_0, .slice A0_1 l0_1.length c0_1, .slice A0_2 l0_2.length c0_2]) (t := 50) ?hr ?_; (case hd => rfl); (case hg => rfl); (case hr => exact Qa8); intro gb1222 hg w12 hbox hb; have BK1222 := Yt.mk (hbox); have GW1222 := Yt.mk ((by rw [hg]; exact (Zk (Qa0)) : w.heap.size ≤ gb1222)); have GE1222 := Yt.mk ((by rw [hg]; exact (Zk (Qa0)) : w.heap.size ≤ gb1222)); replace HB := Yt.mk (Zm (Qa0) hb); clear hb hbox hg) | ((with_reducible refine Yk (N := 3) rfl ?_); refine Yo ?hg (N := 3) ?hd (cs := #[.bool a1_0, .slice A1_1 l1_1.length c1_1, .slice A1_2 l1_2.length c1_2]) (t := 50) ?hr ?_; (case hd => rfl); (case hg => rfl); (case hr => exact Qa8); intro gb1223 hg w13 hbox hb; have BK1223 := Yt.mk (hbox); have GW1223 := Yt.mk ((by rw [hg]; exact (Zk (Qa0)) : w.heap.size ≤ gb1223)); have GE1223 := Yt.mk ((by rw [hg]; exact (Zk (Qa0)) : w.heap.size ≤ gb1223)); replace HB := Yt.mk (Zm (Qa0) hb); have NB1222_1223 := Yt.mk ((by rw [hg]; exact Nat.ne_of_lt (blk_lt (g := gb1222) (o := .cells #[.bool a0_0, .slice A0_1 l0_1.length c0_1, .slice A0_2 l0_2.length c0_2] 50 (0, 0)) (Qr12 BK1222.out)) : gb1222 ≠ gb1223)); have NB1223_1222 := Yt.mk ((by rw [hg]; exact Nat.ne_of_gt (blk_lt (g := gb1222) (o := .cells #[.bool a0_0, .slice A0_1 l0_1.length c0_1, .slice A0_2 l0_2.length c0_2] 50 (0, 0)) (Qr12 BK1222.out)) : gb1223 ≠ gb1222)); replace BK1222 := Yt.mk (Zq (g := gb1222) (o := .cells #[.bool a0_0, .slice A0_1 l0_1.length c0_1, .slice A0_2 l0_2.length c0_2] 50 (0, 0)) (Qr12 BK1222.out) hb); clear hb hbox hg; have hnb14 := NB1222_1223.out; have hnc14 := NB1223_1222.out; have hcz15_0 : w13.cell? ⟨gb1222, 0, none⟩ = some (.bool a0_0) := (Zl BK1222.out 0).trans rfl; have hcz15_1 : w13.cell? ⟨gb1222, 1, none⟩ = some (.slice A0_1 l0_1.length c0_1) := (Zl BK1222.out 1).trans rfl; have hcz15_2 : w13.cell? ⟨gb1222, 2, none⟩ = some (.slice A0_2 l0_2.length c0_2) := (Zl BK1222.out 2).trans rfl; have hfz15_0 := Zn BK1222.out 0; have hfz15_1 := Zn BK1222.out 1; have hfz15_2 := Zn BK1222.out 2; have hcz16_0 : w13.cell? ⟨gb1223, 0, none⟩ = some (.bool a1_0) := (Zl BK1223.out 0).trans rfl; have hcz16_1 : w13.cell? ⟨gb1223, 1, none⟩ = some (.slice A1_1 l1_1.length c1_1) := (Zl BK1223.out 1).trans rfl; have hcz16_2 : w13.cell? ⟨gb1223, 2, none⟩ = some (.slice A1_2 l1_2.length c1_2) := (Zl BK1223.out 2).trans rfl; have hfz16_0 := Zn BK1223.out 0; have hfz16_1 := Zn BK1223.out 1; have hfz16_2 := Zn BK1223.out 2) | (go_at_call 25; (with_reducible refine (r1_Same.calls k _ _ l0_1 _ _ l1_1 false _ ?side1 ?side2 ?side3 ?side4 A4.out).mono ?_); (case side1 => exact Qe9 (Kd.Ys HR0_1.out HB.out)); (case side2 => exact HC0_1.out); (case side3 => exact Qe9 (Kd.Ys HR1_1.out HB.out)); (case side4 => exact HC1_1.out); rintro e w' ⟨rfl, ⟨nd, rfl⟩⟩))
  go_ret
  exact ⟨Qa4, Qa0⟩
 subst c5
 rw [if_pos rfl] at H
 replace H := Option.bind_eq_some_iff.mp H
 obtain ⟨t1225, A60, H⟩ := H
 replace H : (some t1225) = some r := H
 have A6 := Yt.mk A60
 clear A60
 obtain rfl := Option.some.inj H
 go_enter Try.func54, Try.ntmps54
 go_wp2_with (first | ((with_reducible refine Yk (N := 2) rfl ?_); refine Yo ?hg (N := 2) ?hd (cs := #[.bool a0_0, .slice A0_1 l0_1.length c0_1, .slice A0_2 l0_2.length c0_2]) (t := 50) ?hr ?_; (case hd => rfl); (case hg => rfl); (case hr => exact Qa8); intro gb1222 hg w7 hbox hb; have BK1222 := Yt.mk (hbox); have GW1222 := Yt.mk ((by rw [hg]; exact (Zk (Qa0)) : w.heap.size ≤ gb1222)); have GE1222 := Yt.mk ((by rw [hg]; exact (Zk (Qa0)) : w.heap.size ≤ gb1222)); replace HB := Yt.mk (Zm (Qa0) hb); clear hb hbox hg) | ((with_reducible refine Yk (N := 3) rfl ?_); refine Yo ?hg (N := 3) ?hd (cs := #[.bool a1_0, .slice A1_1 l1_1.length c1_1, .slice A1_2 l1_2.length c1_2]) (t := 50) ?hr ?_; (case hd => rfl); (case hg => rfl); (case hr => exact Qa8); intro gb1223 hg w8 hbox hb; have BK1223 := Yt.mk (hbox); have GW1223 := Yt.mk ((by rw [hg]; exact (Zk (Qa0)) : w.heap.size ≤ gb1223)); have GE1223 := Yt.mk ((by rw [hg]; exact (Zk (Qa0)) : w.heap.size ≤ gb1223)); replace HB := Yt.mk (Zm (Qa0) hb); have NB1222_1223 := Yt.mk ((by rw [hg]; exact Nat.ne_of_lt (blk_lt (g := gb1222) (o := .cells #[.bool a0_0, .slice A0_1 l0_1.length c0_1, .slice A0_2 l0_2.length c0_2] 50 (0, 0)) (Qr12 BK1222.out)) : gb1222 ≠ gb1223)); have NB1223_1222 := Yt.mk ((by rw [hg]; exact Nat.ne_of_gt (blk_lt (g := gb1222) (o := .cells #[.bool a0_0, .slice A0_1 l0_1.length c0_1, .slice A0_2 l0_2.length c0_2] 50 (0, 0)) (Qr12 BK1222.out)) : gb1223 ≠ gb1222)); replace BK1222 := Yt.mk (Zq (g := gb1222) (o := .cells #[.bool a0_0, .slice A0_1 l0_1.length c0_1, .slice A0_2 l0_2.length c0_2] 50 (0, 0)) (Qr12 BK1222.out) hb); clear hb hbox hg; have hnb9 := NB1222_1223.out; have hnc9 := NB1223_1222.out; have hcz10_0 : w8.cell? ⟨gb1222, 0, none⟩ = some (.bool a0_0) := (Zl BK1222.out 0).trans rfl; have hcz10_1 : w8.cell? ⟨gb1222, 1, none⟩ = some (.slice A0_1 l0_1.length c0_1) := (Zl BK1222.out 1).trans rfl; have hcz10_2 : w8.cell? ⟨gb1222, 2, none⟩ = some (.slice A0_2 l0_2.length c0_2) := (Zl BK1222.out 2).trans rfl; have hfz10_0 := Zn BK1222.out 0; have hfz10_1 := Zn BK1222.out 1; have hfz10_2 := Zn BK1222.out 2; have hcz11_0 : w8.cell? ⟨gb1223, 0, none⟩ = some (.bool a1_0) := (Zl BK1223.out 0).trans rfl; have hcz11_1 : w8.cell? ⟨gb1223, 1, none⟩ = some (.slice A1_1 l1_1.length c1_1) := (Zl BK1223.out 1).trans rfl; have hcz11_2 : w8.cell? ⟨gb1223, 2, none⟩ = some (.slice A1_2 l1_2.length c1_2) := (Zl BK1223.out 2).trans rfl; have hfz11_0 := Zn BK1223.out 0; have hfz11_1 := Zn BK1223.out 1; have hfz11_2 := Zn BK1223.out 2) | (go_at_call 25; (with_reducible refine (r1_Same.calls k _ _ l0_1 _ _ l1_1 true _ ?side1 ?side2 ?side3 ?side4 A4.out).mono ?_); (case side1 => exact Qe9 (Kd.Ys HR0_1.out HB.out)); (case side2 => exact HC0_1.out); (case side3 => exact Qe9 (Kd.Ys HR1_1.out HB.out)); (case side4 => exact HC1_1.out); rintro e w' ⟨rfl, ⟨nd, rfl⟩⟩; clear A4) | (go_at_call 25; (with_reducible refine (r1_Same.calls k _ _ l0_2 _ _ l1_2 t1225 _ ?side1 ?side2 ?side3 ?side4 A6.out).mono ?_); (case side1 => repeat (first | exact (Kd.Ys HR0_2.out (Qa0)) | (with_reducible refine Kd.Zu ?_ _) | (with_reducible refine Kd.Zt ?_ _) | (with_reducible refine Kd.Yc ?_))); (case side2 => exact HC0_2.out); (case side3 => repeat (first | exact (Kd.Ys HR1_2.out (Qa0)) | (with_reducible refine Kd.Zu ?_ _) | (with_reducible refine Kd.Zt ?_ _) | (with_reducible refine Kd.Yc ?_))); (case side4 => exact HC1_2.out); rintro e w' ⟨rfl, ⟨nd, rfl⟩⟩; clear A6))
 go_ret
 exact ⟨Qa4, Qa0⟩
mutual
def r1_Trim.j1 : Nat → List Int → Int → Option (List Int)
 | 0, _, _ => none
 | k + 1, x0, x3 => r1_Trim.l1 k x0 x3 ([] : List Int) 0
def r1_Trim.l1 : Nat → List Int → Int → List Int → Int → Option (List Int)
 | 0, _, _, _, _ => none
 | k + 1, x0, x3, x4, x5 => if x5 < x3 then (if 0 ≤ x5 then (if x5 < (x0.length : Int) then (if x4.length < 35184372088832 then (r1_Trim.l1 k x0 x3 (x4 ++ [rd x0 x5]) (wrap64 (x5 + 1))) else (none)) else (none)) else (none)) else (some x4)
def r1_Trim.l0 : Nat → List Int → Int → Option (List Int)
 | 0, _, _ => none
 | k + 1, x0, x3 => if x3 > 0 then (if 0 ≤ (wrap64 (x3 - 1)) then (if (wrap64 (x3 - 1)) < (x0.length : Int) then (if (rd x0 (wrap64 (x3 - 1))) = 0 then (r1_Trim.l0 k x0 (wrap64 (x3 - 1))) else (r1_Trim.j1 k x0 x3)) else (none)) else (none)) else (r1_Trim.j1 k x0 x3)
end
def r1_Trim.f (k : Nat) (l0 : List Int) : Option (List Int) := r1_Trim.l0 k l0 (l0.length : Int)
theorem r1_Trim.calls (k : Nat) (A0 : Option Addr) (c0 : Nat) (l0 : List Int) (r : List Int) (w : World) (hr0 : Kd.C (Kd.int .u32) w A0 l0.length l0) (hc0 : l0.length ≤ c0) (h : r1_Trim.f k l0 = some r) :
  Calls Try.prog 46 #[.slice A0 l0.length c0] w fun e w' => ∃ v0_ : Value, e = .returned (v0_) ∧ Kd.R (Kd.int .u32) 47 w' w.heap.size (fun _ => True) v0_ r ∧ Below w.heap.size w w' := by
 have HR0 := Yt.mk hr0
 have HC0 := Yt.mk hc0
 clear hr0 hc0
 have HB := Yt.mk (Below.refl w.heap.size w)
 unfold r1_Trim.f at h
 have H := h
 clear h
 have HC2 := Yt.mk H
 clear H
 go_enter Try.func46, Try.ntmps46
 go_upto_block 0 with (fail)
 go_cut [3] (fun v3 wc => ∃ (kq : Nat) (x3_1 : Int), v3 = .int .i64 x3_1 ∧ Yt (r1_Trim.j1 kq l0 x3_1 = some r) ∧ Yt (kq ≤ k) ∧ Yt (Below w.heap.size w wc))
 case first =>
  have H := HC2.out
  clear HC2
  have H' := Yt.mk H
  clear H
  go_wp2
  go_loopg [3] k (fun kq v3 w' => ∃ (x3_1 : Int), v3 = .int .i64 x3_1 ∧ Yt (r1_Trim.l0 kq l0 x3_1 = some r) ∧ Yt (kq ≤ k) ∧ Yt (Below w.heap.size w w'))
  case atStart => exact ⟨((l0.length : Int)), Qa5, H', ⟨Nat.le_refl _⟩, ⟨Qa0⟩⟩
  case round =>
   clear H'
   try clear p2
   obtain ⟨x3_1, rfl, HA, HK1, HB⟩ := hrel
   cases gk with
   | zero => exact absurd HA.out (by simp [r1_Trim.l0])
   | succ k1 =>
    have H := HA.out
    clear HA
    simp only [r1_Trim.l0] at H
    by_cases c3 : x3_1 > 0
    rotate_left
    ·rw [if_neg c3] at H
     have c3b0 : decide (0 < x3_1) = false := decide_eq_false c3
     clear c3
     (first | rw [c3b0] | rw [c3b1] | (simp only [Yi, Yj]; rw [c3b0]) | skip)
     have H' := Yt.mk H
     clear H
     go_wp2
     go_meet
     case rel => exact ⟨_, (x3_1), Qa5, H', ⟨by have := HK1.out; first | omega | exact Nat.le_refl _⟩, ⟨Qa0⟩⟩
    rw [if_pos c3] at H
    have c3b0 : decide (0 < x3_1) = true := decide_eq_true c3
    clear c3
    (first | rw [c3b0] | rw [c3b1] | (simp only [Yi, Yj]; rw [c3b0]) | skip)
    obtain ⟨ji4, hji4⟩ : ∃ j_ : Int, (wrap64 (x3_1 - 1)) = j_ := ⟨_, rfl⟩
    replace H : (if 0 ≤ (ji4) then (if (ji4) < (l0.length : Int) then (if (rd l0 (ji4)) = 0 then (r1_Trim.l0 k1 l0 ji4) else (r1_Trim.j1 k1 l0 x3_1)) else (none)) else (none)) = some r := by first | (rw [hji4] at H; exact H) | (simp only [hji4] at H ⊢; exact H)
    have hji4w : (IntKind.i64.wrap (x3_1 - 1)) = ji4 := (Yi _).trans hji4
    by_cases c5 : 0 ≤ (ji4)
    rotate_left
    ·rw [if_neg c5] at H
     exact absurd H (by simp)
    rw [if_pos c5] at H
    have c5b0 : decide (0 ≤ (ji4)) = true := decide_eq_true c5
    clear c5
    by_cases c6 : (ji4) < (l0.length : Int)
    rotate_left
    ·rw [if_neg c6] at H
     exact absurd H (by simp)
    rw [if_pos c6] at H
    have c6b0 : decide ((ji4) < (l0.length : Int)) = true := decide_eq_true c6
    clear c6
    by_cases c7 : (rd l0 (ji4)) = 0
    rotate_left
    ·rw [if_neg c7] at H
     have c7b0 : ((rd l0 (ji4)) == 0) = false := beq_eq_false_iff_ne.mpr c7
     have c7b1 : ((rd l0 (ji4)) != 0) = true := bne_iff_ne.mpr c7
     have H' := Yt.mk H
     clear H
     have p401 : 0 ≤ ((ji4) : Int) := Qd
     have q401 : (ji4) < (l0.length : Int) := Qd
     obtain ⟨ad401, e401, hx401_0⟩ := Kd.at_int HR0.out (ji4) p401 q401
     cases e401
     replace hx401_0 := (HB.out.cell (World.block_lt_of_cell? w _ hx401_0)).trans hx401_0
     replace p401 := eq_true p401
     replace q401 := eq_true q401
     go_wp2
     go_meet
     case rel => exact ⟨_, (x3_1), Qa5, H', ⟨by have := HK1.out; first | omega | exact Nat.le_refl _⟩, ⟨Qa0⟩⟩
    rw [if_pos c7] at H
    have c7b0 : ((rd l0 (ji4)) == 0) = true := beq_iff_eq.mpr c7
    have c7b1 : ((rd l0 (ji4)) != 0) = false := bne_eq_false_iff_eq.mpr c7
    clear c7
    have H' := Yt.mk H
    clear H
    have p401 : 0 ≤ ((ji4) : Int) := Qd
    have q401 : (ji4) < (l0.length : Int) := Qd
    obtain ⟨ad401, e401, hx401_0⟩ := Kd.at_int HR0.out (ji4) p401 q401
    cases e401
    replace hx401_0 := (HB.out.cell (World.block_lt_of_cell? w _ hx401_0)).trans hx401_0
    replace p401 := eq_true p401
    replace q401 := eq_true q401
    go_wp2
    go_roundg k1
    case measure => have := HK1.out; omega
    case rel => exact ⟨(ji4), (by first | rfl | (simp; done) | (simp only [← hji4] <;> (first | rfl | simp)) | (simp [*]; done)), H', ⟨by have := HK1.out; omega⟩, ⟨Qa0⟩⟩
 case rest =>
  clear HC2
  try clear p2; try clear c3; try clear c3b0; try clear c3b1; try clear c4; try clear p4; try clear q4; try clear hx4; try clear c5; try clear c5b0; try clear c6; try clear c6b0; try clear p6; try clear c7; try clear c7b0; try clear c7b1; try clear hx401_0; try clear p2; try clear p401; try clear q401
  obtain ⟨kq, x3_1, rfl, HA, HJ1, HB⟩ := hcut
  cases kq with
  | zero => exact absurd HA.out (by simp [r1_Trim.j1])
  | succ kj1 =>
   have H := HA.out
   clear HA
   simp only [r1_Trim.j1] at H
   have H' := Yt.mk H
   clear H
   go_wp2
   go_loopg [4, 5] kj1 (fun kq v4 v5 w' => ∃ (x4_2 : List Int) (x5_2 : Int), v5 = .int .i64 x5_2 ∧ Yt (r1_Trim.l1 kq l0 x3_1 x4_2 x5_2 = some r) ∧ Yt (kq ≤ kj1) ∧ Yt (Kd.R (Kd.int .u32) 47 w' w.heap.size (fun _ => True) v4 x4_2) ∧ Yt (Below w.heap.size w w'))
   case atStart => exact ⟨(([] : List Int)), (0), Qa5, H', ⟨Nat.le_refl _⟩, ⟨by first | exact Kd.R_nil _ _ _ _ _ | exact Kd.N_nil _ _ _ _ _ | exact Kd.V_nil _ _ _ _ _ | exact Kd.Q_nil _ _ _ _ _ | exact Kd.S_nil _ _ _ _ _⟩, ⟨Qa0⟩⟩
   case round =>
    clear H'
    try clear p2; try clear c3; try clear c3b0; try clear c3b1; try clear c4; try clear p4; try clear q4; try clear hx4; try clear c5; try clear c5b0; try clear c6; try clear c6b0; try clear p6; try clear c7; try clear c7b0; try clear c7b1; try clear hx401_0; try clear p2; try clear p4; try clear p401; try clear p6; try clear q4; try clear q401
    obtain ⟨x4_2, x5_2, rfl, HA, HK2, HO_4, HB⟩ := hrel
    cases gk with
    | zero => exact absurd HA.out (by simp [r1_Trim.l1])
    | succ k2 =>
     have H := HA.out
     clear HA
     simp only [r1_Trim.l1] at H
     by_cases c8 : x5_2 < x3_1
     rotate_left
     ·rw [if_neg c8] at H
      have c8b0 : decide (x5_2 < x3_1) = false := decide_eq_false c8
      clear c8
      obtain rfl := Option.some.inj H
      go_wp2
      go_ret
      exact ⟨_, Qa4, Qr1 HO_4.out, Qa0⟩
     rw [if_pos c8] at H
     have c8b0 : decide (x5_2 < x3_1) = true := decide_eq_true c8
     clear c8
     by_cases c9 : 0 ≤ x5_2
     rotate_left
     ·rw [if_neg c9] at H
      exact absurd H (by simp)
     rw [if_pos c9] at H
     have c9b0 : decide (0 ≤ x5_2) = true := decide_eq_true c9
     clear c9
     by_cases c10 : x5_2 < (l0.length : Int)
     rotate_left
     ·rw [if_neg c10] at H
      exact absurd H (by simp)
     rw [if_pos c10] at H
     have c10b0 : decide (x5_2 < (l0.length : Int)) = true := decide_eq_true c10
     clear c10
     by_cases c11 : x4_2.length < 35184372088832
     rotate_left
     ·rw [if_neg c11] at H
      exact absurd H (by simp)
     rw [if_pos c11] at H
     have LMc11 := Yt.mk c11
     clear c11
     obtain ⟨y403, hy403⟩ : ∃ y_ : List Int, y_ = (x4_2 ++ [rd l0 x5_2]) := ⟨_, rfl⟩
     replace H : (r1_Trim.l1 k2 l0 x3_1 y403 (wrap64 (x5_2 + 1))) = some r := Qh hy403 H
     have Ny403 := Yt.mk hy403
     clear hy403
     have H' := Yt.mk H
     clear H
     have p402 : 0 ≤ (x5_2 : Int) := Qd
     have q402 : x5_2 < (l0.length : Int) := Qd
     obtain ⟨ad402, e402, hx402_0⟩ := Kd.at_int HR0.out x5_2 p402 q402
     cases e402
     replace hx402_0 := (HB.out.cell (World.block_lt_of_cell? w _ hx402_0)).trans hx402_0
     replace p402 := eq_true p402
     replace q402 := eq_true q402
     go_wp2_with (first | ((with_reducible refine gate_builtin (b := .append) (xs := #[.tmp 25, .tmp 30]) rfl ?_); at_builtin; refine Kd.R_append (Kd.int .u32) (w0 := w) w.heap.size rfl (.tmp 25) (.tmp 30) 22 47 (.int .u32 0) 4 rfl Try.underlying22 info47 rfl (by decide) (by omega) u4 x4_2 (rd l0 x5_2) [.int .u32 (rd l0 x5_2)] (fun _ => True) (fun _ => False) rfl rfl ?aP (fun _ hk => hk.elim) ?aF ?aO ?aB ?aS ?aL ?_; (case aP => exact rfl); (case aB => exact (Qa0)); (case aF => exact (fun _ _ => trivial)); (case aO => exact (Qr1 HO_4.out)); (case aS => exact (Zk (Qa0))); (case aL => have := LMc11.out; omega); intro v404 w12 ho hb hg hat; rw [← Ny403.out] at ho; replace HB := Yt.mk (hb); have HO405 := Yt.mk (ho); clear HO_4; clear ho hb hg hat))
     go_roundg k2
     case measure => have := HJ1.out; have := HK2.out; omega
     case rel => exact ⟨(y403), (wrap64 (x5_2 + 1)), Qa5, H', ⟨by have := HJ1.out; have := HK2.out; omega⟩, ⟨Qr1 HO405.out⟩, ⟨Qa0⟩⟩
def r1_Fit.f (k : Nat) (l0 : List Int) : Option (List Int × Int) := (r1_Trim.f k l0).bind fun t406 => (if (t406.length : Int) > 16 then (some (([] : List Int), 4)) else (some (t406, 0)))
theorem r1_Fit.calls (k : Nat) (A0 : Option Addr) (c0 : Nat) (l0 : List Int) (r1 : List Int) (r2 : Int) (w : World) (hr0 : Kd.C (Kd.int .u32) w A0 l0.length l0) (hc0 : l0.length ≤ c0) (h : r1_Fit.f k l0 = some (r1, r2)) :
  Calls Try.prog 23 #[.slice A0 l0.length c0] w fun e w' => ∃ v0_ : Value, e = .returned (.tuple #[v0_, .int .i64 r2]) ∧ Kd.R (Kd.int .u32) 47 w' w.heap.size (fun _ => True) v0_ r1 ∧ Below w.heap.size w w' := by
 have HR0 := Yt.mk hr0
 have HC0 := Yt.mk hc0
 clear hr0 hc0
 have HB := Yt.mk (Below.refl w.heap.size w)
 unfold r1_Fit.f at h
 have H := h
 clear h
 replace H := Option.bind_eq_some_iff.mp H
 obtain ⟨t406, A20, H⟩ := H
 try dsimp only at H
 have A2 := Yt.mk A20
 clear A20
 by_cases c3 : (t406.length : Int) > 16
 ·rw [if_pos c3] at H
  have c3b0 : decide (16 < (t406.length : Int)) = true := decide_eq_true c3
  have c3b1 : decide (16 < t406.length) = true := decide_eq_true (by omega)
  clear c3
  simp only [Option.some.injEq, Prod.mk.injEq] at H
  obtain ⟨rfl, rfl⟩ := H
  go_enter Try.func23, Try.ntmps23
  go_wp2_with (first | ((with_reducible refine Zr (f := 46) rfl ?_); refine Yg (some 6) rfl rfl Try.func46 Qa7 rfl #[.slice A0 l0.length c0] rfl Qa2 ?_; (with_reducible refine (r1_Trim.calls k _ _ l0 t406 _ ?side1 ?side2 A2.out).mono ?_); (case side1 => exact Qe9 HR0.out); (case side2 => exact HC0.out); rintro e w4 ⟨v407, rfl, ho0, hb⟩; refine ⟨_, rfl, ?_⟩; have HO408 := Yt.mk (Kd.Yb ho0 (Zk (Qa0))); replace HB := Yt.mk (Zm (Qa0) hb); (try clear hb); (try clear ho0); obtain ⟨Ao5, co5, eo5⟩ := Kd.Zx HO408.out; subst eo5))
  go_ret2
  exact ⟨_, Qa4, by first | exact Kd.R_nil _ _ _ _ _ | exact Kd.N_nil _ _ _ _ _ | exact Kd.V_nil _ _ _ _ _ | exact Kd.Q_nil _ _ _ _ _ | exact Kd.S_nil _ _ _ _ _, Qa0⟩
 rw [if_neg c3] at H
 have c3b0 : decide (16 < (t406.length : Int)) = false := decide_eq_false c3
 have c3b1 : decide (16 < t406.length) = false := decide_eq_false (by omega)
 clear c3
 simp only [Option.some.injEq, Prod.mk.injEq] at H
 obtain ⟨rfl, rfl⟩ := H
 go_enter Try.func23, Try.ntmps23
 go_wp2_with (first | ((with_reducible refine Zr (f := 46) rfl ?_); refine Yg (some 6) rfl rfl Try.func46 Qa7 rfl #[.slice A0 l0.length c0] rfl Qa2 ?_; (with_reducible refine (r1_Trim.calls k _ _ l0 t406 _ ?side1 ?side2 A2.out).mono ?_); (case side1 => exact Qe9 HR0.out); (case side2 => exact HC0.out); rintro e w6 ⟨v407, rfl, ho0, hb⟩; refine ⟨_, rfl, ?_⟩; have HO408 := Yt.mk (Kd.Yb ho0 (Zk (Qa0))); replace HB := Yt.mk (Zm (Qa0) hb); (try clear hb); (try clear ho0); obtain ⟨Ao7, co7, eo7⟩ := Kd.Zx HO408.out; subst eo7))
 go_ret2
 exact ⟨_, Qa4, Qr1 HO408.out, Qa0⟩
mutual
def r1_Text.l0 : Nat → List Int → ByteArray → Option (ByteArray × Int)
 | 0, _, _ => none
 | k + 1, x4, x6 => if (x4.length : Int) > 0 then (r1_Text.l1 k x4 x6 0 (wrap64 ((x4.length : Int) - 1))) else (some (x6, 0))
def r1_Text.l1 : Nat → List Int → ByteArray → Int → Int → Option (ByteArray × Int)
 | 0, _, _, _, _ => none
 | k + 1, x4, x6, x7, x8 => if x8 ≥ 0 then (if 0 ≤ x8 then (if x8 < (x4.length : Int) then (r1_Text.l1 k (x4.set (x8 : Int).toNat ((IntKind.u64.wrap (Int.tdiv (IntKind.u64.wrap ((IntKind.u64.wrap (x7 * 4294967296)) + (IntKind.u64.wrap (rd x4 x8)))) 10)) % 4294967296)) x6 (Int.tmod (IntKind.u64.wrap ((IntKind.u64.wrap (x7 * 4294967296)) + (IntKind.u64.wrap (rd x4 x8)))) 10) (wrap64 (x8 - 1))) else (none)) else (none)) else (if 0 ≤ x7 then (if x7 ≤ (IntKind.u64.wrap (x7 + 1)) then (if (IntKind.u64.wrap (x7 + 1)) ≤ 10 then (if ((⟨#[48, 49, 50, 51, 52, 53, 54, 55, 56, 57]⟩ : ByteArray).extract (x7 : Int).toNat ((IntKind.u64.wrap (x7 + 1)) : Int).toNat).size + x6.size ≤ 9223372036854775807 then ((r1_Trim.f k x4).bind fun t561 => (r1_Text.l0 k t561 (((⟨#[48, 49, 50, 51, 52, 53, 54, 55, 56, 57]⟩ : ByteArray).extract (x7 : Int).toNat ((IntKind.u64.wrap (x7 + 1)) : Int).toNat) ++ x6))) else (none)) else (none)) else (none)) else (none))
end
def r1_Text.f (k : Nat) (l0 : List Int) : Option (ByteArray × Int) := (r1_Fit.f k l0).bind fun bt555 => (if bt555.2 = 0 then (if (bt555.1.length : Int) = 0 then (some ((⟨#[48]⟩ : ByteArray), 0)) else (r1_Text.l0 k bt555.1 (⟨#[]⟩ : ByteArray))) else (some ((⟨#[]⟩ : ByteArray), bt555.2)))
theorem r1_Text.calls (k : Nat) (A0 : Option Addr) (c0 : Nat) (l0 : List Int) (r1 : ByteArray) (r2 : Int) (w : World) (hr0 : Kd.C (Kd.int .u32) w A0 l0.length l0) (hc0 : l0.length ≤ c0) (h : r1_Text.f k l0 = some (r1, r2)) :
  Calls Try.prog 30 #[.slice A0 l0.length c0] w fun e w' => e = .returned (.tuple #[.string r1, .int .i64 r2]) ∧ Below w.heap.size w w' := by
 have HR0 := Yt.mk hr0
 have HC0 := Yt.mk hc0
 clear hr0 hc0
 have HB := Yt.mk (Below.refl w.heap.size w)
 unfold r1_Text.f at h
 have H := h
 clear h
 replace H := Option.bind_eq_some_iff.mp H
 obtain ⟨⟨t555, t556⟩, A20, H⟩ := H
 try dsimp only at H
 have A2 := Yt.mk A20
 clear A20
 by_cases c3 : t556 = 0
 rotate_left
 ·rw [if_neg c3] at H
  have c3b0 : (t556 == 0) = false := beq_eq_false_iff_ne.mpr c3
  have c3b1 : (t556 != 0) = true := bne_iff_ne.mpr c3
  simp only [Option.some.injEq, Prod.mk.injEq] at H
  obtain ⟨rfl, rfl⟩ := H
  go_enter Try.func30, Try.ntmps30
  go_wp2_with (first | ((with_reducible refine Zr (f := 23) rfl ?_); refine Yg (some 12) rfl rfl Try.func23 Qa7 rfl #[.slice A0 l0.length c0] rfl Qa2 ?_; (with_reducible refine (r1_Fit.calls k _ _ l0 t555 t556 _ ?side1 ?side2 A2.out).mono ?_); (case side1 => exact Qe9 HR0.out); (case side2 => exact HC0.out); rintro e w24 ⟨v557, rfl, ho0, hb⟩; refine ⟨_, rfl, ?_⟩; have HO558 := Yt.mk (Kd.Yb ho0 (Zk (Qa0))); replace HB := Yt.mk (Zm (Qa0) hb); (try clear hb); (try clear ho0)))
  go_ret2
  exact ⟨Qa4, Qa0⟩
 rw [if_pos c3] at H
 have c3b0 : (t556 == 0) = true := beq_iff_eq.mpr c3
 have c3b1 : (t556 != 0) = false := bne_eq_false_iff_eq.mpr c3
 clear c3
 by_cases c4 : (t555.length : Int) = 0
 ·rw [if_pos c4] at H
  have c4b0 : ((t555.length : Int) == 0) = true := beq_iff_eq.mpr c4
  have c4b1 : ((t555.length : Int) != 0) = false := bne_eq_false_iff_eq.mpr c4
  clear c4
  simp only [Option.some.injEq, Prod.mk.injEq] at H
  obtain ⟨rfl, rfl⟩ := H
  go_enter Try.func30, Try.ntmps30
  go_wp2_with (first | ((with_reducible refine Zr (f := 23) rfl ?_); refine Yg (some 12) rfl rfl Try.func23 Qa7 rfl #[.slice A0 l0.length c0] rfl Qa2 ?_; (with_reducible refine (r1_Fit.calls k _ _ l0 t555 t556 _ ?side1 ?side2 A2.out).mono ?_); (case side1 => exact Qe9 HR0.out); (case side2 => exact HC0.out); rintro e w5 ⟨v557, rfl, ho0, hb⟩; refine ⟨_, rfl, ?_⟩; have HO558 := Yt.mk (Kd.Yb ho0 (Zk (Qa0))); replace HB := Yt.mk (Zm (Qa0) hb); (try clear hb); (try clear ho0); obtain ⟨Ao6, co6, eo6⟩ := Kd.Zx HO558.out; subst eo6))
  go_ret2
  exact ⟨Qa4, Qa0⟩
 rw [if_neg c4] at H
 have c4b0 : ((t555.length : Int) == 0) = false := beq_eq_false_iff_ne.mpr c4
 have c4b1 : ((t555.length : Int) != 0) = true := bne_iff_ne.mpr c4
 have c4b2 : ¬ (t555 = []) := fun h_ => c4 (by rw [h_]; rfl)
 have H' := Yt.mk H
 clear H
 go_enter Try.func30, Try.ntmps30
 go_wp2_with (first | ((with_reducible refine Zr (f := 23) rfl ?_); refine Yg (some 12) rfl rfl Try.func23 Qa7 rfl #[.slice A0 l0.length c0] rfl Qa2 ?_; (with_reducible refine (r1_Fit.calls k _ _ l0 t555 t556 _ ?side1 ?side2 A2.out).mono ?_); (case side1 => exact Qe9 HR0.out); (case side2 => exact HC0.out); rintro e w7 ⟨v557, rfl, ho0, hb⟩; refine ⟨_, rfl, ?_⟩; have HO558 := Yt.mk (Kd.Yb ho0 (Zk (Qa0))); replace HB := Yt.mk (Zm (Qa0) hb); (try clear hb); (try clear ho0); obtain ⟨Ao8, co8, eo8⟩ := Kd.Zx HO558.out; subst eo8))
 go_loopg [4, 6] k (fun kq v4 v6 w' => ∃ (x4_1 : List Int) (x6_1 : ByteArray), v6 = .string x6_1 ∧ Yt (r1_Text.l0 kq x4_1 x6_1 = some (r1, r2)) ∧ Yt (kq ≤ k) ∧ Yt (Kd.R (Kd.int .u32) 47 w' w.heap.size (fun _ => True) v4 x4_1) ∧ Yt (Below w.heap.size w w'))
 case atStart => exact ⟨(t555), ((⟨#[]⟩ : ByteArray)), Qa5, H', ⟨Nat.le_refl _⟩, ⟨Qr1 HO558.out⟩, ⟨Qa0⟩⟩
 case round =>
  clear H'
  try clear c2; try clear p2; try clear c3; try clear c3b0; try clear c3b1; try clear c4; try clear c4b0; try clear c4b1; try clear c4b2
  obtain ⟨x4_1, x6_1, rfl, HA, HK1, HO_4, HB⟩ := hrel
  cases gk with
  | zero => exact absurd HA.out (by simp [r1_Text.l0])
  | succ k1 =>
   have H := HA.out
   clear HA
   simp only [r1_Text.l0] at H
   by_cases c9 : (x4_1.length : Int) > 0
   rotate_left
   ·rw [if_neg c9] at H
    have c9b0 : decide (0 < (x4_1.length : Int)) = false := decide_eq_false c9
    have c9b1 : decide (0 < x4_1.length) = false := decide_eq_false (by omega)
    clear c9
    simp only [Option.some.injEq, Prod.mk.injEq] at H
    obtain ⟨rfl, rfl⟩ := H
    obtain ⟨Ao23, co23, eo23⟩ := Kd.Zx HO_4.out
    subst eo23
    go_wp2
    go_ret2
    exact ⟨Qa4, Qa0⟩
   rw [if_pos c9] at H
   have c9b0 : decide (0 < (x4_1.length : Int)) = true := decide_eq_true c9
   have c9b1 : decide (0 < x4_1.length) = true := decide_eq_true (by omega)
   clear c9
   have H' := Yt.mk H
   clear H
   obtain ⟨Ao10, co10, eo10⟩ := Kd.Zx HO_4.out
   subst eo10
   go_wp2
   go_loopg [7, 8] k1 (fun kq v7 v8 w' => ∃ (x4_2 : List Int) (x7_2 : Int) (x8_2 : Int), v7 = .int .u64 x7_2 ∧ v8 = .int .i64 x8_2 ∧ Yt (r1_Text.l1 kq x4_2 x6_1 x7_2 x8_2 = some (r1, r2)) ∧ Yt (kq ≤ k1) ∧ Yt (Kd.R (Kd.int .u32) 47 w' w.heap.size (fun _ => True) (.slice Ao10 x4_1.length co10) x4_2) ∧ Yt (Below w.heap.size w w'))
   case atStart => exact ⟨(x4_1), (0), (wrap64 ((x4_1.length : Int) - 1)), Qa5, Qa5, H', ⟨Nat.le_refl _⟩, ⟨Qr1 HO_4.out⟩, ⟨Qa0⟩⟩
   case round =>
    clear H'
    try clear c2; try clear p2; try clear c3; try clear c3b0; try clear c3b1; try clear c4; try clear c4b0; try clear c4b1; try clear c4b2; try clear p6; try clear c9; try clear c9b0; try clear c9b1; try clear p2
    obtain ⟨x4_2, x7_2, x8_2, rfl, rfl, HA, HK2, HO_4, HB⟩ := hrel
    have hl4_2 := (Kd.Zs HO_4.out).1
    rw [hl4_2] at HO_4
    (try simp only [hl4_2])
    cases gk with
    | zero => exact absurd HA.out (by simp [r1_Text.l1])
    | succ k2 =>
     have H := HA.out
     clear HA
     simp only [r1_Text.l1] at H
     by_cases c11 : x8_2 ≥ 0
     rotate_left
     ·rw [if_neg c11] at H
      have c11b0 : decide (0 ≤ x8_2) = false := decide_eq_false c11
      clear c11
      by_cases c17 : 0 ≤ x7_2
      rotate_left
      ·rw [if_neg c17] at H
       exact absurd H (by simp)
      rw [if_pos c17] at H
      have c17b0 := eq_true c17
      have c17b1 : decide (0 ≤ x7_2) = true := decide_eq_true c17
      clear c17
      by_cases c18 : x7_2 ≤ (IntKind.u64.wrap (x7_2 + 1))
      rotate_left
      ·rw [if_neg c18] at H
       exact absurd H (by simp)
      rw [if_pos c18] at H
      have c18b0 := eq_true c18
      have c18b1 : decide (x7_2 ≤ (IntKind.u64.wrap (x7_2 + 1))) = true := decide_eq_true c18
      by_cases c19 : (IntKind.u64.wrap (x7_2 + 1)) ≤ 10
      rotate_left
      ·rw [if_neg c19] at H
       exact absurd H (by simp)
      rw [if_pos c19] at H
      have c19b0 := eq_true c19
      have c19b1 : decide ((IntKind.u64.wrap (x7_2 + 1)) ≤ 10) = true := decide_eq_true c19
      by_cases c20 : ((⟨#[48, 49, 50, 51, 52, 53, 54, 55, 56, 57]⟩ : ByteArray).extract (x7_2 : Int).toNat ((IntKind.u64.wrap (x7_2 + 1)) : Int).toNat).size + x6_1.size ≤ 9223372036854775807
      rotate_left
      ·rw [if_neg c20] at H
       exact absurd H (by simp)
      rw [if_pos c20] at H
      have c20b0 := eq_true c20
      have c20b1 : decide (((⟨#[48, 49, 50, 51, 52, 53, 54, 55, 56, 57]⟩ : ByteArray).extract (x7_2 : Int).toNat ((IntKind.u64.wrap (x7_2 + 1)) : Int).toNat).size + x6_1.size ≤ 9223372036854775807) = true := decide_eq_true c20
      try have c20b2 : (9223372036854775807 < ((⟨#[48, 49, 50, 51, 52, 53, 54, 55, 56, 57]⟩ : ByteArray).extract (x7_2 : Int).toNat ((IntKind.u64.wrap (x7_2 + 1)) : Int).toNat).size + x6_1.size) = False := eq_false (Nat.not_lt.2 c20)
      replace H := Option.bind_eq_some_iff.mp H
      obtain ⟨t561, A210, H⟩ := H
      try dsimp only at H
      have A21 := Yt.mk A210
      clear A210
      have H' := Yt.mk H
      clear H
      go_wp2_with (first | ((with_reducible refine Zr (f := 46) rfl ?_); refine Yg (some 54) rfl rfl Try.func46 Qa7 rfl #[.slice Ao10 x4_2.length co10] rfl Qa2 ?_; (with_reducible refine (r1_Trim.calls k2 _ _ x4_2 t561 _ ?side1 ?side2 A21.out).mono ?_); (case side1 => exact Qe9 (Kd.Zs HO_4.out).2.2); (case side2 => exact (Kd.Zs HO_4.out).2.1); rintro e w22 ⟨v562, rfl, ho0, hb⟩; refine ⟨_, rfl, ?_⟩; have HO563 := Yt.mk (Kd.Yb (Kd.Ya ho0 (Kd.R_lt (Qr1 HO_4.out))) (Zk (Qa0))); replace HO_4 := Yt.mk (Kd.Yf (Qr1 HO_4.out) (Kd.Zw ho0) hb); replace HB := Yt.mk (Zm (Qa0) hb); (try clear hb); (try clear ho0)))
      (try simp only [← hl4_2])
      go_roundg k2
      case measure => have := HK1.out; have := HK2.out; omega
      case rel => exact ⟨(t561), (((⟨#[48, 49, 50, 51, 52, 53, 54, 55, 56, 57]⟩ : ByteArray).extract (x7_2 : Int).toNat ((IntKind.u64.wrap (x7_2 + 1)) : Int).toNat) ++ x6_1), Qa5, H', ⟨by have := HK1.out; have := HK2.out; omega⟩, ⟨by (try simp only [hl4_2]); (with_reducible repeat (first | apply Kd.Zf | apply Kd.Ze | apply Kd.Zj)); exact Kd.Zv HO563.out (fun _ hk => trivial)⟩, ⟨Qa0⟩⟩
     rw [if_pos c11] at H
     have c11b0 : decide (0 ≤ x8_2) = true := decide_eq_true c11
     clear c11
     by_cases c12 : 0 ≤ x8_2
     rotate_left
     ·rw [if_neg c12] at H
      exact absurd H (by simp)
     rw [if_pos c12] at H
     have c12b0 : decide (0 ≤ x8_2) = true := decide_eq_true c12
     clear c12
     by_cases c13 : x8_2 < (x4_2.length : Int)
     rotate_left
     ·rw [if_neg c13] at H
      exact absurd H (by simp)
     rw [if_pos c13] at H
     have c13b0 : decide (x8_2 < (x4_2.length : Int)) = true := decide_eq_true c13
     (try (have c13b0hl4_2 := c13b0; rw [hl4_2] at c13b0hl4_2))
     clear c13
     obtain ⟨y560, hy560⟩ : ∃ y_ : List Int, y_ = (x4_2.set (x8_2 : Int).toNat ((IntKind.u64.wrap (Int.tdiv (IntKind.u64.wrap ((IntKind.u64.wrap (x7_2 * 4294967296)) + (IntKind.u64.wrap (rd x4_2 x8_2)))) 10)) % 4294967296)) := ⟨_, rfl⟩
     replace H : (r1_Text.l1 k2 y560 x6_1 (Int.tmod (IntKind.u64.wrap ((IntKind.u64.wrap (x7_2 * 4294967296)) + (IntKind.u64.wrap (rd x4_2 x8_2)))) 10) (wrap64 (x8_2 - 1))) = some (r1, r2) := Qh hy560 H
     have Ny560 := Yt.mk hy560
     clear hy560
     have H' := Yt.mk H
     clear H
     have p559 : 0 ≤ (x8_2 : Int) := Qd
     have q559 : x8_2 < (x4_2.length : Int) := Qd
     obtain ⟨ad559, e559, hx559_0⟩ := Kd.at_int (Kd.Zs HO_4.out).2.2 x8_2 p559 q559
     cases e559
     replace p559 := eq_true p559
     replace q559 := eq_true q559
     have p14 : 0 ≤ (x8_2 : Int) := Qd
     have q14 : (x8_2 : Int) < ((x4_2.length : Int) : Int) := Qd
     obtain ⟨go14, co14, eo14, gb14, gl14, cl14, HG14⟩ := Kd.R_form HO_4.out (by omega)
     (first | cases eo14 | (injection eo14 with ea_ en_ ec_; (first | subst ea_ | (injection ea_ with ea_; subst ea_)); subst ec_; clear en_))
     have GB14 := Yt.mk gb14
     have GG14 := Yt.mk HG14
     clear gb14 gl14 HG14
     (first | simp only [add_plain] at hx559_0 | skip)
     obtain ⟨hx14_0, hf14_0⟩ := Kd.R_celln 0 HO_4.out (x8_2 : Int) p14 q14
     replace p14 := eq_true p14
     replace q14 := eq_true q14
     obtain ⟨hy15_, hz15_⟩ := Kd.R_celln 0 HO_4.out (x8_2 : Int) (Qd) (Qd)
     have HP15 := Kd.R_putg HO_4.out (x8_2 : Int) ((IntKind.u64.wrap (Int.tdiv (IntKind.u64.wrap ((IntKind.u64.wrap (x7_2 * 4294967296)) + (IntKind.u64.wrap (rd x4_2 x8_2)))) 10)) % 4294967296)
     go_wp2_with (first | ((with_reducible refine gate_store (t := 47) (p := 44) rfl ?_); refine store_event (t := 47) (p := 44) (v := ?vo_w16) (w1 := (wr.setCell ⟨go14, (x8_2 : Int).toNat, none⟩ (.int .u32 ((IntKind.u64.wrap (Int.tdiv (IntKind.u64.wrap ((IntKind.u64.wrap (x7_2 * 4294967296)) + (IntKind.u64.wrap (rd x4_2 x8_2)))) 10)) % 4294967296)))) ?hg ?ho ?hn ?hr ?_; (case ho => rfl); (case hg => rfl); (case hn => rfl); (case hr => exact Qa8); intro w16 hw; have hg : wr.grownBy w16 (some go14) := (by rw [hw]; exact HP15.2); have hp_ : Kd.R (Kd.int .u32) 47 w16 w.heap.size (fun _ => True) (.slice (some ⟨go14, 0, none⟩) x4_2.length co10) y560 := (by rw [hw, Ny560.out]; exact HP15.1); clear HP15; replace HO_4 := Yt.mk (hp_); replace HB := Yt.mk ((by rw [hw]; exact Zd (HB.out) GB14.out : Below w.heap.size w w16)); clear hg hw hp_))
     (try simp only [← hl4_2])
     go_roundg k2
     case measure => have := HK1.out; have := HK2.out; omega
     case rel => exact ⟨(y560), (Int.tmod (IntKind.u64.wrap ((IntKind.u64.wrap (x7_2 * 4294967296)) + (IntKind.u64.wrap (rd x4_2 x8_2)))) 10), (wrap64 (x8_2 - 1)), Qa5, Qa5, H', ⟨by have := HK1.out; have := HK2.out; omega⟩, ⟨by (try simp only [hl4_2]); (with_reducible repeat (first | apply Kd.Zf | apply Kd.Ze | apply Kd.Zj)); exact HO_4.out⟩, ⟨Qa0⟩⟩
def r1_Form.f (l0 : List Int) : Option (Bool) := if (l0.length : Int) ≤ 16 then (if (l0.length : Int) = 0 then (some true) else (if 0 ≤ (wrap64 ((l0.length : Int) - 1)) then (if (wrap64 ((l0.length : Int) - 1)) < (l0.length : Int) then (some ((rd l0 (wrap64 ((l0.length : Int) - 1))) != 0)) else (none)) else (none))) else (some false)
theorem r1_Form.calls (A0 : Option Addr) (c0 : Nat) (l0 : List Int) (r : Bool) (w : World) (hr0 : Kd.C (Kd.int .u32) w A0 l0.length l0) (hc0 : l0.length ≤ c0) (h : r1_Form.f l0 = some r) :
  Calls Try.prog 39 #[.slice A0 l0.length c0] w fun e w' => e = .returned (.bool r) ∧ Drawn0 w w' := by
 have HR0 := Yt.mk hr0
 have HC0 := Yt.mk hc0
 clear hr0 hc0
 unfold r1_Form.f at h
 have H := h
 clear h
 by_cases c2 : (l0.length : Int) ≤ 16
 rotate_left
 ·rw [if_neg c2] at H
  have c2b0 : decide ((l0.length : Int) ≤ 16) = false := decide_eq_false c2
  have c2b1 : decide (l0.length ≤ 16) = false := decide_eq_false (by omega)
  clear c2
  obtain rfl := Option.some.inj H
  go_enter Try.func39, Try.ntmps39
  go_wp2
  go_ret
  exact ⟨by first | rfl | (simp; done) | (simp [*]; done), Qa10⟩
 rw [if_pos c2] at H
 have c2b0 : decide ((l0.length : Int) ≤ 16) = true := decide_eq_true c2
 have c2b1 : decide (l0.length ≤ 16) = true := decide_eq_true (by omega)
 clear c2
 by_cases c3 : (l0.length : Int) = 0
 ·rw [if_pos c3] at H
  have c3b0 : ((l0.length : Int) == 0) = true := beq_iff_eq.mpr c3
  have c3b1 : ((l0.length : Int) != 0) = false := bne_eq_false_iff_eq.mpr c3
  clear c3
  obtain rfl := Option.some.inj H
  go_enter Try.func39, Try.ntmps39
  go_wp2
  go_ret
  exact ⟨by first | rfl | (simp; done) | (simp [*]; done), Qa10⟩
 rw [if_neg c3] at H
 have c3b0 : ((l0.length : Int) == 0) = false := beq_eq_false_iff_ne.mpr c3
 have c3b1 : ((l0.length : Int) != 0) = true := bne_iff_ne.mpr c3
 have c3b2 : ¬ (l0 = []) := fun h_ => c3 (by rw [h_]; rfl)
 obtain ⟨ji4, hji4⟩ : ∃ j_ : Int, (wrap64 ((l0.length : Int) - 1)) = j_ := ⟨_, rfl⟩
 replace H : (if 0 ≤ (ji4) then (if (ji4) < (l0.length : Int) then (some ((rd l0 (ji4)) != 0)) else (none)) else (none)) = some r := by first | (rw [hji4] at H; exact H) | (simp only [hji4] at H ⊢; exact H)
 have hji4w : (IntKind.i64.wrap ((l0.length : Int) - 1)) = ji4 := (Yi _).trans hji4
 by_cases c5 : 0 ≤ (ji4)
 rotate_left
 ·rw [if_neg c5] at H
  exact absurd H (by simp)
 rw [if_pos c5] at H
 have c5b0 : decide (0 ≤ (ji4)) = true := decide_eq_true c5
 clear c5
 by_cases c6 : (ji4) < (l0.length : Int)
 rotate_left
 ·rw [if_neg c6] at H
  exact absurd H (by simp)
 rw [if_pos c6] at H
 have c6b0 : decide ((ji4) < (l0.length : Int)) = true := decide_eq_true c6
 clear c6
 obtain rfl := Option.some.inj H
 have p631 : 0 ≤ ((ji4) : Int) := Qd
 have q631 : (ji4) < (l0.length : Int) := Qd
 obtain ⟨ad631, e631, hx631_0⟩ := Kd.at_int HR0.out (ji4) p631 q631
 cases e631
 replace p631 := eq_true p631
 replace q631 := eq_true q631
 go_enter Try.func39, Try.ntmps39
 go_wp2
 go_ret
 exact ⟨by first | rfl | (simp; done) | (simp only [← hji4] <;> (first | rfl | simp)) | (simp [*]; done), Qa10⟩
def r1_Cmp.l0 : Nat → List Int → List Int → Int → Option (Int)
 | 0, _, _, _ => none
 | k + 1, x5, x6, x7 => if x7 ≥ 0 then (if 0 ≤ x7 then (if x7 < (x5.length : Int) then (if x7 < (x6.length : Int) then (if (rd x5 x7) < (rd x6 x7) then (some (-1)) else (if (rd x5 x7) > (rd x6 x7) then (some 1) else (r1_Cmp.l0 k x5 x6 (wrap64 (x7 - 1))))) else (none)) else (none)) else (none)) else (some 0)
def r1_Cmp.f (k : Nat) (l0 : List Int) (l1 : List Int) : Option (Int) := (r1_Trim.f k l0).bind fun t449 => ((r1_Trim.f k l1).bind fun t452 => (if (t449.length : Int) < (t452.length : Int) then (some (-1)) else (if (t449.length : Int) > (t452.length : Int) then (some 1) else (r1_Cmp.l0 k t449 t452 (wrap64 ((t449.length : Int) - 1))))))
theorem r1_Cmp.calls (k : Nat) (A0 : Option Addr) (c0 : Nat) (l0 : List Int) (A1 : Option Addr) (c1 : Nat) (l1 : List Int) (r : Int) (w : World) (hr0 : Kd.C (Kd.int .u32) w A0 l0.length l0) (hc0 : l0.length ≤ c0) (hr1 : Kd.C (Kd.int .u32) w A1 l1.length l1) (hc1 : l1.length ≤ c1) (h : r1_Cmp.f k l0 l1 = some r) :
  Calls Try.prog 36 #[.slice A0 l0.length c0, .slice A1 l1.length c1] w fun e w' => e = .returned (.int .i64 r) ∧ Below w.heap.size w w' := by
 have HR0 := Yt.mk hr0
 have HC0 := Yt.mk hc0
 clear hr0 hc0
 have HR1 := Yt.mk hr1
 have HC1 := Yt.mk hc1
 clear hr1 hc1
 have HB := Yt.mk (Below.refl w.heap.size w)
 unfold r1_Cmp.f at h
 have H := h
 clear h
 replace H := Option.bind_eq_some_iff.mp H
 obtain ⟨t449, A30, H⟩ := H
 try dsimp only at H
 have A3 := Yt.mk A30
 clear A30
 replace H := Option.bind_eq_some_iff.mp H
 obtain ⟨t452, A40, H⟩ := H
 try dsimp only at H
 have A4 := Yt.mk A40
 clear A40
 by_cases c5 : (t449.length : Int) < (t452.length : Int)
 ·rw [if_pos c5] at H
  have c5b0 : decide ((t449.length : Int) < (t452.length : Int)) = true := decide_eq_true c5
  have c5b1 : decide (t449.length < t452.length) = true := decide_eq_true (Int.ofNat_lt.mp c5)
  clear c5
  obtain rfl := Option.some.inj H
  go_enter Try.func36, Try.ntmps36
  go_wp2_with (first | (go_at_call 46; (with_reducible refine (r1_Trim.calls k _ _ l0 t449 _ ?side1 ?side2 A3.out).mono ?_); (case side1 => exact Qe9 HR0.out); (case side2 => exact HC0.out); rintro e w6 ⟨v450, rfl, ho0, hb⟩; have HO451 := Yt.mk (Kd.Yb ho0 (Zk (Qa0))); replace HB := Yt.mk (Zm (Qa0) hb); (try clear hb); (try clear ho0); clear A3) | (go_at_call 46; (with_reducible refine (r1_Trim.calls k _ _ l1 t452 _ ?side1 ?side2 A4.out).mono ?_); (case side1 => exact Qe9 (Kd.Ys HR1.out HB.out)); (case side2 => exact HC1.out); rintro e w7 ⟨v453, rfl, ho0, hb⟩; have HO454 := Yt.mk (Kd.Yb (Kd.Ya ho0 (Kd.R_lt (Qr1 HO451.out))) (Zk (Qa0))); replace HO451 := Yt.mk (Kd.Yf (Qr1 HO451.out) (Kd.Zw ho0) hb); replace HB := Yt.mk (Zm (Qa0) hb); (try clear hb); (try clear ho0); obtain ⟨Ao8, co8, eo8⟩ := Kd.Zx HO451.out; subst eo8; obtain ⟨Ao9, co9, eo9⟩ := Kd.Zx HO454.out; subst eo9; clear A4))
  repeat (go_quiet (first | (go_at_call 46; (with_reducible refine (r1_Trim.calls k _ _ l0 t449 _ ?side1 ?side2 A3.out).mono ?_); (case side1 => exact Qe9 HR0.out); (case side2 => exact HC0.out); rintro e w6 ⟨v450, rfl, ho0, hb⟩; have HO451 := Yt.mk (Kd.Yb ho0 (Zk (Qa0))); replace HB := Yt.mk (Zm (Qa0) hb); (try clear hb); (try clear ho0); clear A3) | (go_at_call 46; (with_reducible refine (r1_Trim.calls k _ _ l1 t452 _ ?side1 ?side2 A4.out).mono ?_); (case side1 => exact Qe9 (Kd.Ys HR1.out HB.out)); (case side2 => exact HC1.out); rintro e w7 ⟨v453, rfl, ho0, hb⟩; have HO454 := Yt.mk (Kd.Yb (Kd.Ya ho0 (Kd.R_lt (Qr1 HO451.out))) (Zk (Qa0))); replace HO451 := Yt.mk (Kd.Yf (Qr1 HO451.out) (Kd.Zw ho0) hb); replace HB := Yt.mk (Zm (Qa0) hb); (try clear hb); (try clear ho0); obtain ⟨Ao8, co8, eo8⟩ := Kd.Zx HO451.out; subst eo8; obtain ⟨Ao9, co9, eo9⟩ := Kd.Zx HO454.out; subst eo9; clear A4)); try go_wp2_with (first | (go_at_call 46; (with_reducible refine (r1_Trim.calls k _ _ l0 t449 _ ?side1 ?side2 A3.out).mono ?_); (case side1 => exact Qe9 HR0.out); (case side2 => exact HC0.out); rintro e w6 ⟨v450, rfl, ho0, hb⟩; have HO451 := Yt.mk (Kd.Yb ho0 (Zk (Qa0))); replace HB := Yt.mk (Zm (Qa0) hb); (try clear hb); (try clear ho0); clear A3) | (go_at_call 46; (with_reducible refine (r1_Trim.calls k _ _ l1 t452 _ ?side1 ?side2 A4.out).mono ?_); (case side1 => exact Qe9 (Kd.Ys HR1.out HB.out)); (case side2 => exact HC1.out); rintro e w7 ⟨v453, rfl, ho0, hb⟩; have HO454 := Yt.mk (Kd.Yb (Kd.Ya ho0 (Kd.R_lt (Qr1 HO451.out))) (Zk (Qa0))); replace HO451 := Yt.mk (Kd.Yf (Qr1 HO451.out) (Kd.Zw ho0) hb); replace HB := Yt.mk (Zm (Qa0) hb); (try clear hb); (try clear ho0); obtain ⟨Ao8, co8, eo8⟩ := Kd.Zx HO451.out; subst eo8; obtain ⟨Ao9, co9, eo9⟩ := Kd.Zx HO454.out; subst eo9; clear A4)))
  go_ret
  exact ⟨Qa4, Qa0⟩
 rw [if_neg c5] at H
 have c5b0 : decide ((t449.length : Int) < (t452.length : Int)) = false := decide_eq_false c5
 have c5b1 : decide (t449.length < t452.length) = false := decide_eq_false (fun h => c5 (Int.ofNat_lt.mpr h))
 clear c5
 by_cases c10 : (t449.length : Int) > (t452.length : Int)
 ·rw [if_pos c10] at H
  have c10b0 : decide ((t452.length : Int) < (t449.length : Int)) = true := decide_eq_true c10
  have c10b1 : decide (t452.length < t449.length) = true := decide_eq_true (Int.ofNat_lt.mp c10)
  clear c10
  obtain rfl := Option.some.inj H
  go_enter Try.func36, Try.ntmps36
  go_wp2_with (first | (go_at_call 46; (with_reducible refine (r1_Trim.calls k _ _ l0 t449 _ ?side1 ?side2 A3.out).mono ?_); (case side1 => exact Qe9 HR0.out); (case side2 => exact HC0.out); rintro e w11 ⟨v450, rfl, ho0, hb⟩; have HO451 := Yt.mk (Kd.Yb ho0 (Zk (Qa0))); replace HB := Yt.mk (Zm (Qa0) hb); (try clear hb); (try clear ho0); clear A3) | (go_at_call 46; (with_reducible refine (r1_Trim.calls k _ _ l1 t452 _ ?side1 ?side2 A4.out).mono ?_); (case side1 => exact Qe9 (Kd.Ys HR1.out HB.out)); (case side2 => exact HC1.out); rintro e w12 ⟨v453, rfl, ho0, hb⟩; have HO454 := Yt.mk (Kd.Yb (Kd.Ya ho0 (Kd.R_lt (Qr1 HO451.out))) (Zk (Qa0))); replace HO451 := Yt.mk (Kd.Yf (Qr1 HO451.out) (Kd.Zw ho0) hb); replace HB := Yt.mk (Zm (Qa0) hb); (try clear hb); (try clear ho0); obtain ⟨Ao13, co13, eo13⟩ := Kd.Zx HO451.out; subst eo13; obtain ⟨Ao14, co14, eo14⟩ := Kd.Zx HO454.out; subst eo14; clear A4))
  repeat (go_quiet (first | (go_at_call 46; (with_reducible refine (r1_Trim.calls k _ _ l0 t449 _ ?side1 ?side2 A3.out).mono ?_); (case side1 => exact Qe9 HR0.out); (case side2 => exact HC0.out); rintro e w11 ⟨v450, rfl, ho0, hb⟩; have HO451 := Yt.mk (Kd.Yb ho0 (Zk (Qa0))); replace HB := Yt.mk (Zm (Qa0) hb); (try clear hb); (try clear ho0); clear A3) | (go_at_call 46; (with_reducible refine (r1_Trim.calls k _ _ l1 t452 _ ?side1 ?side2 A4.out).mono ?_); (case side1 => exact Qe9 (Kd.Ys HR1.out HB.out)); (case side2 => exact HC1.out); rintro e w12 ⟨v453, rfl, ho0, hb⟩; have HO454 := Yt.mk (Kd.Yb (Kd.Ya ho0 (Kd.R_lt (Qr1 HO451.out))) (Zk (Qa0))); replace HO451 := Yt.mk (Kd.Yf (Qr1 HO451.out) (Kd.Zw ho0) hb); replace HB := Yt.mk (Zm (Qa0) hb); (try clear hb); (try clear ho0); obtain ⟨Ao13, co13, eo13⟩ := Kd.Zx HO451.out; subst eo13; obtain ⟨Ao14, co14, eo14⟩ := Kd.Zx HO454.out; subst eo14; clear A4)); try go_wp2_with (first | (go_at_call 46; (with_reducible refine (r1_Trim.calls k _ _ l0 t449 _ ?side1 ?side2 A3.out).mono ?_); (case side1 => exact Qe9 HR0.out); (case side2 => exact HC0.out); rintro e w11 ⟨v450, rfl, ho0, hb⟩; have HO451 := Yt.mk (Kd.Yb ho0 (Zk (Qa0))); replace HB := Yt.mk (Zm (Qa0) hb); (try clear hb); (try clear ho0); clear A3) | (go_at_call 46; (with_reducible refine (r1_Trim.calls k _ _ l1 t452 _ ?side1 ?side2 A4.out).mono ?_); (case side1 => exact Qe9 (Kd.Ys HR1.out HB.out)); (case side2 => exact HC1.out); rintro e w12 ⟨v453, rfl, ho0, hb⟩; have HO454 := Yt.mk (Kd.Yb (Kd.Ya ho0 (Kd.R_lt (Qr1 HO451.out))) (Zk (Qa0))); replace HO451 := Yt.mk (Kd.Yf (Qr1 HO451.out) (Kd.Zw ho0) hb); replace HB := Yt.mk (Zm (Qa0) hb); (try clear hb); (try clear ho0); obtain ⟨Ao13, co13, eo13⟩ := Kd.Zx HO451.out; subst eo13; obtain ⟨Ao14, co14, eo14⟩ := Kd.Zx HO454.out; subst eo14; clear A4)))
  go_ret
  exact ⟨Qa4, Qa0⟩
 rw [if_neg c10] at H
 have c10b0 : decide ((t452.length : Int) < (t449.length : Int)) = false := decide_eq_false c10
 have c10b1 : decide (t452.length < t449.length) = false := decide_eq_false (fun h => c10 (Int.ofNat_lt.mpr h))
 clear c10
 have H' := Yt.mk H
 clear H
 go_enter Try.func36, Try.ntmps36
 go_wp2_with (first | (go_at_call 46; (with_reducible refine (r1_Trim.calls k _ _ l0 t449 _ ?side1 ?side2 A3.out).mono ?_); (case side1 => exact Qe9 HR0.out); (case side2 => exact HC0.out); rintro e w15 ⟨v450, rfl, ho0, hb⟩; have HO451 := Yt.mk (Kd.Yb ho0 (Zk (Qa0))); replace HB := Yt.mk (Zm (Qa0) hb); (try clear hb); (try clear ho0); clear A3) | (go_at_call 46; (with_reducible refine (r1_Trim.calls k _ _ l1 t452 _ ?side1 ?side2 A4.out).mono ?_); (case side1 => exact Qe9 (Kd.Ys HR1.out HB.out)); (case side2 => exact HC1.out); rintro e w16 ⟨v453, rfl, ho0, hb⟩; have HO454 := Yt.mk (Kd.Yb (Kd.Ya ho0 (Kd.R_lt (Qr1 HO451.out))) (Zk (Qa0))); replace HO451 := Yt.mk (Kd.Yf (Qr1 HO451.out) (Kd.Zw ho0) hb); replace HB := Yt.mk (Zm (Qa0) hb); (try clear hb); (try clear ho0); obtain ⟨Ao17, co17, eo17⟩ := Kd.Zx HO451.out; subst eo17; obtain ⟨Ao18, co18, eo18⟩ := Kd.Zx HO454.out; subst eo18; clear A4))
 repeat (go_quiet (first | (go_at_call 46; (with_reducible refine (r1_Trim.calls k _ _ l0 t449 _ ?side1 ?side2 A3.out).mono ?_); (case side1 => exact Qe9 HR0.out); (case side2 => exact HC0.out); rintro e w15 ⟨v450, rfl, ho0, hb⟩; have HO451 := Yt.mk (Kd.Yb ho0 (Zk (Qa0))); replace HB := Yt.mk (Zm (Qa0) hb); (try clear hb); (try clear ho0); clear A3) | (go_at_call 46; (with_reducible refine (r1_Trim.calls k _ _ l1 t452 _ ?side1 ?side2 A4.out).mono ?_); (case side1 => exact Qe9 (Kd.Ys HR1.out HB.out)); (case side2 => exact HC1.out); rintro e w16 ⟨v453, rfl, ho0, hb⟩; have HO454 := Yt.mk (Kd.Yb (Kd.Ya ho0 (Kd.R_lt (Qr1 HO451.out))) (Zk (Qa0))); replace HO451 := Yt.mk (Kd.Yf (Qr1 HO451.out) (Kd.Zw ho0) hb); replace HB := Yt.mk (Zm (Qa0) hb); (try clear hb); (try clear ho0); obtain ⟨Ao17, co17, eo17⟩ := Kd.Zx HO451.out; subst eo17; obtain ⟨Ao18, co18, eo18⟩ := Kd.Zx HO454.out; subst eo18; clear A4)); try go_wp2_with (first | (go_at_call 46; (with_reducible refine (r1_Trim.calls k _ _ l0 t449 _ ?side1 ?side2 A3.out).mono ?_); (case side1 => exact Qe9 HR0.out); (case side2 => exact HC0.out); rintro e w15 ⟨v450, rfl, ho0, hb⟩; have HO451 := Yt.mk (Kd.Yb ho0 (Zk (Qa0))); replace HB := Yt.mk (Zm (Qa0) hb); (try clear hb); (try clear ho0); clear A3) | (go_at_call 46; (with_reducible refine (r1_Trim.calls k _ _ l1 t452 _ ?side1 ?side2 A4.out).mono ?_); (case side1 => exact Qe9 (Kd.Ys HR1.out HB.out)); (case side2 => exact HC1.out); rintro e w16 ⟨v453, rfl, ho0, hb⟩; have HO454 := Yt.mk (Kd.Yb (Kd.Ya ho0 (Kd.R_lt (Qr1 HO451.out))) (Zk (Qa0))); replace HO451 := Yt.mk (Kd.Yf (Qr1 HO451.out) (Kd.Zw ho0) hb); replace HB := Yt.mk (Zm (Qa0) hb); (try clear hb); (try clear ho0); obtain ⟨Ao17, co17, eo17⟩ := Kd.Zx HO451.out; subst eo17; obtain ⟨Ao18, co18, eo18⟩ := Kd.Zx HO454.out; subst eo18; clear A4)))
 go_loopg [7] k (fun kq v7 w' => ∃ (x7_1 : Int), v7 = .int .i64 x7_1 ∧ Yt (r1_Cmp.l0 kq t449 t452 x7_1 = some r) ∧ Yt (kq ≤ k) ∧ Yt (Kd.R (Kd.int .u32) 47 w' w.heap.size (fun k_ => some k_ ≠ ((.slice Ao18 t452.length co18) : Value).ownBlock) (.slice Ao17 t449.length co17) t449) ∧ Yt (Kd.R (Kd.int .u32) 47 w' w.heap.size (fun k_ => some k_ ≠ ((.slice Ao17 t449.length co17) : Value).ownBlock) (.slice Ao18 t452.length co18) t452) ∧ Yt (Below w.heap.size w w'))
 case atStart => exact ⟨(wrap64 ((t449.length : Int) - 1)), Qa5, H', ⟨Nat.le_refl _⟩, ⟨by (with_reducible repeat (first | apply Kd.Zf | apply Kd.Ze | apply Kd.Zj)); exact Kd.Zv HO451.out (fun _ hk => hk.2)⟩, ⟨by (with_reducible repeat (first | apply Kd.Zf | apply Kd.Ze | apply Kd.Zj)); exact Kd.Zv HO454.out (fun _ hk => hk.2)⟩, ⟨Qa0⟩⟩
 case round =>
  clear H'
  try clear c1; try clear p2; try clear c3; try clear c5; try clear c5b0; try clear c5b1; try clear p6; try clear c10; try clear c10b0; try clear c10b1
  obtain ⟨x7_1, rfl, HA, HK1, HO_5, HO_6, HB⟩ := hrel
  cases gk with
  | zero => exact absurd HA.out (by simp [r1_Cmp.l0])
  | succ k1 =>
   have H := HA.out
   clear HA
   simp only [r1_Cmp.l0] at H
   by_cases c19 : x7_1 ≥ 0
   rotate_left
   ·rw [if_neg c19] at H
    have c19b0 : decide (0 ≤ x7_1) = false := decide_eq_false c19
    clear c19
    obtain rfl := Option.some.inj H
    go_wp2
    repeat (go_quiet (fail); try go_wp2)
    go_ret
    exact ⟨Qa4, Qa0⟩
   rw [if_pos c19] at H
   have c19b0 : decide (0 ≤ x7_1) = true := decide_eq_true c19
   clear c19
   by_cases c20 : 0 ≤ x7_1
   rotate_left
   ·rw [if_neg c20] at H
    exact absurd H (by simp)
   rw [if_pos c20] at H
   have c20b0 : decide (0 ≤ x7_1) = true := decide_eq_true c20
   clear c20
   by_cases c21 : x7_1 < (t449.length : Int)
   rotate_left
   ·rw [if_neg c21] at H
    exact absurd H (by simp)
   rw [if_pos c21] at H
   have c21b0 : decide (x7_1 < (t449.length : Int)) = true := decide_eq_true c21
   clear c21
   by_cases c22 : x7_1 < (t452.length : Int)
   rotate_left
   ·rw [if_neg c22] at H
    exact absurd H (by simp)
   rw [if_pos c22] at H
   have c22b0 : decide (x7_1 < (t452.length : Int)) = true := decide_eq_true c22
   clear c22
   by_cases c23 : (rd t449 x7_1) < (rd t452 x7_1)
   ·rw [if_pos c23] at H
    have c23b0 : decide ((rd t449 x7_1) < (rd t452 x7_1)) = true := decide_eq_true c23
    clear c23
    obtain rfl := Option.some.inj H
    have p455 : 0 ≤ (x7_1 : Int) := Qd
    have q455 : x7_1 < (t449.length : Int) := Qd
    obtain ⟨ad455, e455, hx455_0⟩ := Kd.at_int (Kd.Zs HO_5.out).2.2 x7_1 p455 q455
    cases e455
    replace p455 := eq_true p455
    replace q455 := eq_true q455
    have p456 : 0 ≤ (x7_1 : Int) := Qd
    have q456 : x7_1 < (t452.length : Int) := Qd
    obtain ⟨ad456, e456, hx456_0⟩ := Kd.at_int (Kd.Zs HO_6.out).2.2 x7_1 p456 q456
    cases e456
    replace p456 := eq_true p456
    replace q456 := eq_true q456
    go_wp2
    repeat (go_quiet (fail); try go_wp2)
    go_ret
    exact ⟨Qa4, Qa0⟩
   rw [if_neg c23] at H
   have c23b0 : decide ((rd t449 x7_1) < (rd t452 x7_1)) = false := decide_eq_false c23
   clear c23
   by_cases c24 : (rd t449 x7_1) > (rd t452 x7_1)
   ·rw [if_pos c24] at H
    have c24b0 : decide ((rd t452 x7_1) < (rd t449 x7_1)) = true := decide_eq_true c24
    clear c24
    obtain rfl := Option.some.inj H
    have p455 : 0 ≤ (x7_1 : Int) := Qd
    have q455 : x7_1 < (t449.length : Int) := Qd
    obtain ⟨ad455, e455, hx455_0⟩ := Kd.at_int (Kd.Zs HO_5.out).2.2 x7_1 p455 q455
    cases e455
    replace p455 := eq_true p455
    replace q455 := eq_true q455
    have p456 : 0 ≤ (x7_1 : Int) := Qd
    have q456 : x7_1 < (t452.length : Int) := Qd
    obtain ⟨ad456, e456, hx456_0⟩ := Kd.at_int (Kd.Zs HO_6.out).2.2 x7_1 p456 q456
    cases e456
    replace p456 := eq_true p456
    replace q456 := eq_true q456
    have p457 : 0 ≤ (x7_1 : Int) := Qd
    have q457 : x7_1 < (t449.length : Int) := Qd
    obtain ⟨ad457, e457, hx457_0⟩ := Kd.at_int (Kd.Zs HO_5.out).2.2 x7_1 p457 q457
    obtain rfl : ad455 = ad457 := (by injection e457)
    replace p457 := eq_true p457
    replace q457 := eq_true q457
    have p458 : 0 ≤ (x7_1 : Int) := Qd
    have q458 : x7_1 < (t452.length : Int) := Qd
    obtain ⟨ad458, e458, hx458_0⟩ := Kd.at_int (Kd.Zs HO_6.out).2.2 x7_1 p458 q458
    obtain rfl : ad456 = ad458 := (by injection e458)
    replace p458 := eq_true p458
    replace q458 := eq_true q458
    go_wp2
    repeat (go_quiet (fail); try go_wp2)
    go_ret
    exact ⟨Qa4, Qa0⟩
   rw [if_neg c24] at H
   have c24b0 : decide ((rd t452 x7_1) < (rd t449 x7_1)) = false := decide_eq_false c24
   clear c24
   have H' := Yt.mk H
   clear H
   have p455 : 0 ≤ (x7_1 : Int) := Qd
   have q455 : x7_1 < (t449.length : Int) := Qd
   obtain ⟨ad455, e455, hx455_0⟩ := Kd.at_int (Kd.Zs HO_5.out).2.2 x7_1 p455 q455
   cases e455
   replace p455 := eq_true p455
   replace q455 := eq_true q455
   have p456 : 0 ≤ (x7_1 : Int) := Qd
   have q456 : x7_1 < (t452.length : Int) := Qd
   obtain ⟨ad456, e456, hx456_0⟩ := Kd.at_int (Kd.Zs HO_6.out).2.2 x7_1 p456 q456
   cases e456
   replace p456 := eq_true p456
   replace q456 := eq_true q456
   have p457 : 0 ≤ (x7_1 : Int) := Qd
   have q457 : x7_1 < (t449.length : Int) := Qd
   obtain ⟨ad457, e457, hx457_0⟩ := Kd.at_int (Kd.Zs HO_5.out).2.2 x7_1 p457 q457
   obtain rfl : ad455 = ad457 := (by injection e457)
   replace p457 := eq_true p457
   replace q457 := eq_true q457
   have p458 : 0 ≤ (x7_1 : Int) := Qd
   have q458 : x7_1 < (t452.length : Int) := Qd
   obtain ⟨ad458, e458, hx458_0⟩ := Kd.at_int (Kd.Zs HO_6.out).2.2 x7_1 p458 q458
   obtain rfl : ad456 = ad458 := (by injection e458)
   replace p458 := eq_true p458
   replace q458 := eq_true q458
   go_wp2
   repeat (go_quiet (fail); try go_wp2)
   go_roundg k1
   case measure => have := HK1.out; omega
   case rel => exact ⟨(wrap64 (x7_1 - 1)), Qa5, H', ⟨by have := HK1.out; omega⟩, ⟨Qr1 HO_5.out⟩, ⟨Qr1 HO_6.out⟩, ⟨Qa0⟩⟩
mutual
def r1_Plus.l0 : Nat → List Int → List Int → List Int → Int → Int → Option (List Int)
 | 0, _, _, _, _, _ => none
 | k + 1, x0, x1, x5, x6, x7 => if x7 < (x0.length : Int) then (r1_Plus.j1 k x0 x1 x5 x6 x7 true) else (r1_Plus.j1 k x0 x1 x5 x6 x7 (decide (x7 < (x1.length : Int))))
def r1_Plus.j1 : Nat → List Int → List Int → List Int → Int → Int → Bool → Option (List Int)
 | 0, _, _, _, _, _, _ => none
 | k + 1, x0, x1, x5, x6, x7, x17 => if x17 = true then (if x7 < (x0.length : Int) then (if 0 ≤ x7 then (if x7 < (x1.length : Int) then (if x5.length < 35184372088832 then (r1_Plus.l0 k x0 x1 (x5 ++ [(Int.tmod (IntKind.u64.wrap ((IntKind.u64.wrap (x6 + (IntKind.u64.wrap (rd x0 x7)))) + (IntKind.u64.wrap (rd x1 x7)))) 4294967296) % 4294967296]) (IntKind.u64.wrap (Int.tdiv (IntKind.u64.wrap ((IntKind.u64.wrap (x6 + (IntKind.u64.wrap (rd x0 x7)))) + (IntKind.u64.wrap (rd x1 x7)))) 4294967296)) (wrap64 (x7 + 1))) else (none)) else (if x5.length < 35184372088832 then (r1_Plus.l0 k x0 x1 (x5 ++ [(Int.tmod (IntKind.u64.wrap (x6 + (IntKind.u64.wrap (rd x0 x7)))) 4294967296) % 4294967296]) (IntKind.u64.wrap (Int.tdiv (IntKind.u64.wrap (x6 + (IntKind.u64.wrap (rd x0 x7)))) 4294967296)) (wrap64 (x7 + 1))) else (none))) else (none)) else (if x7 < (x1.length : Int) then (if 0 ≤ x7 then (if x5.length < 35184372088832 then (r1_Plus.l0 k x0 x1 (x5 ++ [(Int.tmod (IntKind.u64.wrap (x6 + (IntKind.u64.wrap (rd x1 x7)))) 4294967296) % 4294967296]) (IntKind.u64.wrap (Int.tdiv (IntKind.u64.wrap (x6 + (IntKind.u64.wrap (rd x1 x7)))) 4294967296)) (wrap64 (x7 + 1))) else (none)) else (none)) else (if x5.length < 35184372088832 then (r1_Plus.l0 k x0 x1 (x5 ++ [(Int.tmod x6 4294967296) % 4294967296]) (IntKind.u64.wrap (Int.tdiv x6 4294967296)) (wrap64 (x7 + 1))) else (none)))) else (if x5.length < 35184372088832 then ((r1_Trim.f k (x5 ++ [(x6) % 4294967296])).bind fun t462 => (some t462)) else (none))
end
def r1_Plus.f (k : Nat) (l0 : List Int) (l1 : List Int) : Option (List Int) := r1_Plus.l0 k l0 l1 ([] : List Int) 0 0
theorem r1_Plus.calls (k : Nat) (A0 : Option Addr) (c0 : Nat) (l0 : List Int) (A1 : Option Addr) (c1 : Nat) (l1 : List Int) (r : List Int) (w : World) (hr0 : Kd.C (Kd.int .u32) w A0 l0.length l0) (hc0 : l0.length ≤ c0) (hr1 : Kd.C (Kd.int .u32) w A1 l1.length l1) (hc1 : l1.length ≤ c1) (h : r1_Plus.f k l0 l1 = some r) :
  Calls Try.prog 37 #[.slice A0 l0.length c0, .slice A1 l1.length c1] w fun e w' => ∃ v0_ : Value, e = .returned (v0_) ∧ Kd.R (Kd.int .u32) 47 w' w.heap.size (fun _ => True) v0_ r ∧ Below w.heap.size w w' := by
 have HR0 := Yt.mk hr0
 have HC0 := Yt.mk hc0
 clear hr0 hc0
 have HR1 := Yt.mk hr1
 have HC1 := Yt.mk hc1
 clear hr1 hc1
 have HB := Yt.mk (Below.refl w.heap.size w)
 unfold r1_Plus.f at h
 have H := h
 clear h
 have H' := Yt.mk H
 clear H
 go_enter Try.func37, Try.ntmps37
 go_wp2
 go_loopg [5, 6, 7] k (fun kq v5 v6 v7 w' => ∃ (x5_1 : List Int) (x6_1 : Int) (x7_1 : Int), v6 = .int .u64 x6_1 ∧ v7 = .int .i64 x7_1 ∧ Yt (r1_Plus.l0 kq l0 l1 x5_1 x6_1 x7_1 = some r) ∧ Yt (kq ≤ k) ∧ Yt (Kd.R (Kd.int .u32) 47 w' w.heap.size (fun _ => True) v5 x5_1) ∧ Yt (Below w.heap.size w w'))
 case atStart => exact ⟨(([] : List Int)), (0), (0), Qa5, Qa5, H', ⟨Nat.le_refl _⟩, ⟨by first | exact Kd.R_nil _ _ _ _ _ | exact Kd.N_nil _ _ _ _ _ | exact Kd.V_nil _ _ _ _ _ | exact Kd.Q_nil _ _ _ _ _ | exact Kd.S_nil _ _ _ _ _⟩, ⟨Qa0⟩⟩
 case round =>
  clear H'
  try clear c1; try clear p2
  obtain ⟨x5_1, x6_1, x7_1, rfl, rfl, HA, HK1, HO_5, HB⟩ := hrel
  cases gk with
  | zero => exact absurd HA.out (by simp [r1_Plus.l0])
  | succ k1 =>
   have H := HA.out
   clear HA
   simp only [r1_Plus.l0] at H
   have HC3 := Yt.mk H
   clear H
   go_upto_region 4 with (fail)
   go_cut [17] (fun v17 wc => ∃ (kq : Nat) (x17_2 : Bool), v17 = .bool x17_2 ∧ Yt (r1_Plus.j1 kq l0 l1 x5_1 x6_1 x7_1 x17_2 = some r) ∧ Yt (kq ≤ k1) ∧ Yt (Kd.R (Kd.int .u32) 47 wc w.heap.size (fun _ => True) u5 x5_1) ∧ Yt (Below w.heap.size w wc))
   case first =>
    have H := HC3.out
    clear HC3
    by_cases c4 : x7_1 < (l0.length : Int)
    ·rw [if_pos c4] at H
     have c4b0 : decide (x7_1 < (l0.length : Int)) = true := decide_eq_true c4
     clear c4
     (first | rw [c4b0] | rw [c4b1] | (simp only [Yi, Yj]; rw [c4b0]) | skip)
     have H' := Yt.mk H
     clear H
     go_wp2
     go_meet
     case rel => exact ⟨_, (true), Qa5, H', ⟨by have := HK1.out; first | omega | exact Nat.le_refl _⟩, ⟨Qr1 HO_5.out⟩, ⟨Qa0⟩⟩
    rw [if_neg c4] at H
    have c4b0 : decide (x7_1 < (l0.length : Int)) = false := decide_eq_false c4
    clear c4
    (first | rw [c4b0] | rw [c4b1] | (simp only [Yi, Yj]; rw [c4b0]) | skip)
    have H' := Yt.mk H
    clear H
    go_wp2
    go_meet
    case rel => exact ⟨_, (decide (x7_1 < (l1.length : Int))), Qa5, H', ⟨by have := HK1.out; first | omega | exact Nat.le_refl _⟩, ⟨Qr1 HO_5.out⟩, ⟨Qa0⟩⟩
   case rest =>
    clear HC3
    try clear c1; try clear p2; try clear c3; try clear c4; try clear c4b0; try clear c4b1; try clear p2
    obtain ⟨kq, x17_2, rfl, HA, HJ2, HO_5, HB⟩ := hcut
    cases kq with
    | zero => exact absurd HA.out (by simp [r1_Plus.j1])
    | succ kj2 =>
     have H := HA.out
     clear HA
     simp only [r1_Plus.j1] at H
     by_cases c5 : x17_2 = true
     rotate_left
     ·replace c5 := Bool.eq_false_iff.mpr c5
      subst c5
      rw [if_neg (show ¬ (false = true) by decide)] at H
      by_cases c19 : x5_1.length < 35184372088832
      rotate_left
      ·rw [if_neg c19] at H
       exact absurd H (by simp)
      rw [if_pos c19] at H
      have LMc19 := Yt.mk c19
      clear c19
      obtain ⟨y459, hy459⟩ : ∃ y_ : List Int, y_ = (x5_1 ++ [(x6_1) % 4294967296]) := ⟨_, rfl⟩
      replace H : ((r1_Trim.f kj2 y459).bind fun t462 => (some t462)) = some r := Qh hy459 H
      have Ny459 := Yt.mk hy459
      clear hy459
      replace H := Option.bind_eq_some_iff.mp H
      obtain ⟨t462, A200, H⟩ := H
      replace H : (some t462) = some r := H
      have A20 := Yt.mk A200
      clear A200
      obtain rfl := Option.some.inj H
      go_wp2_with (first | ((with_reducible refine gate_builtin (b := .append) (xs := #[.tmp 50, .tmp 53]) rfl ?_); (try (refine gate_guard (by rfl) ?_; dsimp only)); at_builtin; refine Kd.R_append (Kd.int .u32) (w0 := w) w.heap.size rfl (.tmp 50) (.tmp 53) 22 47 (.int .u32 0) 4 rfl Try.underlying22 info47 rfl (by decide) (by omega) u5 x5_1 ((x6_1) % 4294967296) [.int .u32 ((x6_1) % 4294967296)] (fun _ => True) (fun _ => False) rfl rfl ?aP (fun _ hk => hk.elim) ?aF ?aO ?aB ?aS ?aL ?_; (case aP => exact rfl); (case aB => exact (Qa0)); (case aF => exact (fun _ _ => trivial)); (case aO => exact (Qr1 HO_5.out)); (case aS => exact (Zk (Qa0))); (case aL => have := LMc19.out; omega); intro v460 w21 ho hb hg hat; rw [← Ny459.out] at ho; replace HB := Yt.mk (hb); have HO461 := Yt.mk (ho); clear HO_5; clear ho hb hg hat; obtain ⟨Ao22, co22, eo22⟩ := Kd.Zx HO461.out; subst eo22) | ((with_reducible refine Zr (f := 46) rfl ?_); refine Yg (some 56) rfl rfl Try.func46 Qa7 rfl #[.slice Ao22 y459.length co22] rfl Qa2 ?_; (with_reducible refine (r1_Trim.calls kj2 _ _ y459 t462 _ ?side1 ?side2 A20.out).mono ?_); (case side1 => exact Qe9 (Kd.Zs HO461.out).2.2); (case side2 => exact (Kd.Zs HO461.out).2.1); rintro e w23 ⟨v463, rfl, ho0, hb⟩; refine ⟨_, rfl, ?_⟩; have HO464 := Yt.mk (Kd.Yb (Kd.Ya ho0 (Kd.R_lt (Qr1 HO461.out))) (Zk (Qa0))); replace HO461 := Yt.mk (Kd.Yf (Qr1 HO461.out) (Kd.Zw ho0) hb); replace HB := Yt.mk (Zm (Qa0) hb); (try clear hb); (try clear ho0)))
      go_ret
      exact ⟨_, Qa4, by (with_reducible repeat (first | apply Kd.Zf | apply Kd.Ze | apply Kd.Zj)); exact Kd.Zv HO464.out (fun _ hk => trivial), Qa0⟩
     subst c5
     rw [if_pos rfl] at H
     by_cases c6 : x7_1 < (l0.length : Int)
     rotate_left
     ·rw [if_neg c6] at H
      have c6b0 : decide (x7_1 < (l0.length : Int)) = false := decide_eq_false c6
      clear c6
      by_cases c13 : x7_1 < (l1.length : Int)
      rotate_left
      ·rw [if_neg c13] at H
       have c13b0 : decide (x7_1 < (l1.length : Int)) = false := decide_eq_false c13
       clear c13
       by_cases c17 : x5_1.length < 35184372088832
       rotate_left
       ·rw [if_neg c17] at H
        exact absurd H (by simp)
       rw [if_pos c17] at H
       have LMc17 := Yt.mk c17
       clear c17
       obtain ⟨y477, hy477⟩ : ∃ y_ : List Int, y_ = (x5_1 ++ [(Int.tmod x6_1 4294967296) % 4294967296]) := ⟨_, rfl⟩
       replace H : (r1_Plus.l0 kj2 l0 l1 y477 (IntKind.u64.wrap (Int.tdiv x6_1 4294967296)) (wrap64 (x7_1 + 1))) = some r := Qh hy477 H
       have Ny477 := Yt.mk hy477
       clear hy477
       have H' := Yt.mk H
       clear H
       go_wp2_with (first | ((with_reducible refine gate_builtin (b := .append) (xs := #[.tmp 42, .tmp 46]) rfl ?_); (try (refine gate_guard (by rfl) ?_; dsimp only)); at_builtin; refine Kd.R_append (Kd.int .u32) (w0 := w) w.heap.size rfl (.tmp 42) (.tmp 46) 22 47 (.int .u32 0) 4 rfl Try.underlying22 info47 rfl (by decide) (by omega) u5 x5_1 ((Int.tmod x6_1 4294967296) % 4294967296) [.int .u32 ((Int.tmod x6_1 4294967296) % 4294967296)] (fun _ => True) (fun _ => False) rfl rfl ?aP (fun _ hk => hk.elim) ?aF ?aO ?aB ?aS ?aL ?_; (case aP => exact rfl); (case aB => exact (Qa0)); (case aF => exact (fun _ _ => trivial)); (case aO => exact (Qr1 HO_5.out)); (case aS => exact (Zk (Qa0))); (case aL => have := LMc17.out; omega); intro v478 w18 ho hb hg hat; rw [← Ny477.out] at ho; replace HB := Yt.mk (hb); have HO479 := Yt.mk (ho); clear HO_5; clear ho hb hg hat))
       go_roundg kj2
       case measure => have := HK1.out; have := HJ2.out; omega
       case rel => exact ⟨(y477), (IntKind.u64.wrap (Int.tdiv x6_1 4294967296)), (wrap64 (x7_1 + 1)), Qa5, Qa5, H', ⟨by have := HK1.out; have := HJ2.out; omega⟩, ⟨Qr1 HO479.out⟩, ⟨Qa0⟩⟩
      rw [if_pos c13] at H
      have c13b0 : decide (x7_1 < (l1.length : Int)) = true := decide_eq_true c13
      clear c13
      by_cases c14 : 0 ≤ x7_1
      rotate_left
      ·rw [if_neg c14] at H
       exact absurd H (by simp)
      rw [if_pos c14] at H
      have c14b0 : decide (0 ≤ x7_1) = true := decide_eq_true c14
      clear c14
      by_cases c15 : x5_1.length < 35184372088832
      rotate_left
      ·rw [if_neg c15] at H
       exact absurd H (by simp)
      rw [if_pos c15] at H
      have LMc15 := Yt.mk c15
      clear c15
      obtain ⟨y474, hy474⟩ : ∃ y_ : List Int, y_ = (x5_1 ++ [(Int.tmod (IntKind.u64.wrap (x6_1 + (IntKind.u64.wrap (rd l1 x7_1)))) 4294967296) % 4294967296]) := ⟨_, rfl⟩
      replace H : (r1_Plus.l0 kj2 l0 l1 y474 (IntKind.u64.wrap (Int.tdiv (IntKind.u64.wrap (x6_1 + (IntKind.u64.wrap (rd l1 x7_1)))) 4294967296)) (wrap64 (x7_1 + 1))) = some r := Qh hy474 H
      have Ny474 := Yt.mk hy474
      clear hy474
      have H' := Yt.mk H
      clear H
      have p473 : 0 ≤ (x7_1 : Int) := Qd
      have q473 : x7_1 < (l1.length : Int) := Qd
      obtain ⟨ad473, e473, hx473_0⟩ := Kd.at_int HR1.out x7_1 p473 q473
      cases e473
      replace hx473_0 := (HB.out.cell (World.block_lt_of_cell? w _ hx473_0)).trans hx473_0
      replace p473 := eq_true p473
      replace q473 := eq_true q473
      go_wp2_with (first | ((with_reducible refine gate_builtin (b := .append) (xs := #[.tmp 42, .tmp 46]) rfl ?_); (try (refine gate_guard (by rfl) ?_; dsimp only)); at_builtin; refine Kd.R_append (Kd.int .u32) (w0 := w) w.heap.size rfl (.tmp 42) (.tmp 46) 22 47 (.int .u32 0) 4 rfl Try.underlying22 info47 rfl (by decide) (by omega) u5 x5_1 ((Int.tmod (IntKind.u64.wrap (x6_1 + (IntKind.u64.wrap (rd l1 x7_1)))) 4294967296) % 4294967296) [.int .u32 ((Int.tmod (IntKind.u64.wrap (x6_1 + (IntKind.u64.wrap (rd l1 x7_1)))) 4294967296) % 4294967296)] (fun _ => True) (fun _ => False) rfl rfl ?aP (fun _ hk => hk.elim) ?aF ?aO ?aB ?aS ?aL ?_; (case aP => exact rfl); (case aB => exact (Qa0)); (case aF => exact (fun _ _ => trivial)); (case aO => exact (Qr1 HO_5.out)); (case aS => exact (Zk (Qa0))); (case aL => have := LMc15.out; omega); intro v475 w16 ho hb hg hat; rw [← Ny474.out] at ho; replace HB := Yt.mk (hb); have HO476 := Yt.mk (ho); clear HO_5; clear ho hb hg hat))
      go_roundg kj2
      case measure => have := HK1.out; have := HJ2.out; omega
      case rel => exact ⟨(y474), (IntKind.u64.wrap (Int.tdiv (IntKind.u64.wrap (x6_1 + (IntKind.u64.wrap (rd l1 x7_1)))) 4294967296)), (wrap64 (x7_1 + 1)), Qa5, Qa5, H', ⟨by have := HK1.out; have := HJ2.out; omega⟩, ⟨Qr1 HO476.out⟩, ⟨Qa0⟩⟩
     rw [if_pos c6] at H
     have c6b0 : decide (x7_1 < (l0.length : Int)) = true := decide_eq_true c6
     clear c6
     by_cases c7 : 0 ≤ x7_1
     rotate_left
     ·rw [if_neg c7] at H
      exact absurd H (by simp)
     rw [if_pos c7] at H
     have c7b0 : decide (0 ≤ x7_1) = true := decide_eq_true c7
     clear c7
     by_cases c8 : x7_1 < (l1.length : Int)
     rotate_left
     ·rw [if_neg c8] at H
      have c8b0 : decide (x7_1 < (l1.length : Int)) = false := decide_eq_false c8
      clear c8
      by_cases c11 : x5_1.length < 35184372088832
      rotate_left
      ·rw [if_neg c11] at H
       exact absurd H (by simp)
      rw [if_pos c11] at H
      have LMc11 := Yt.mk c11
      clear c11
      obtain ⟨y470, hy470⟩ : ∃ y_ : List Int, y_ = (x5_1 ++ [(Int.tmod (IntKind.u64.wrap (x6_1 + (IntKind.u64.wrap (rd l0 x7_1)))) 4294967296) % 4294967296]) := ⟨_, rfl⟩
      replace H : (r1_Plus.l0 kj2 l0 l1 y470 (IntKind.u64.wrap (Int.tdiv (IntKind.u64.wrap (x6_1 + (IntKind.u64.wrap (rd l0 x7_1)))) 4294967296)) (wrap64 (x7_1 + 1))) = some r := Qh hy470 H
      have Ny470 := Yt.mk hy470
      clear hy470
      have H' := Yt.mk H
      clear H
      have p465 : 0 ≤ (x7_1 : Int) := Qd
      have q465 : x7_1 < (l0.length : Int) := Qd
      obtain ⟨ad465, e465, hx465_0⟩ := Kd.at_int HR0.out x7_1 p465 q465
      cases e465
      replace hx465_0 := (HB.out.cell (World.block_lt_of_cell? w _ hx465_0)).trans hx465_0
      replace p465 := eq_true p465
      replace q465 := eq_true q465
      go_wp2_with (first | ((with_reducible refine gate_builtin (b := .append) (xs := #[.tmp 42, .tmp 46]) rfl ?_); (try (refine gate_guard (by rfl) ?_; dsimp only)); at_builtin; refine Kd.R_append (Kd.int .u32) (w0 := w) w.heap.size rfl (.tmp 42) (.tmp 46) 22 47 (.int .u32 0) 4 rfl Try.underlying22 info47 rfl (by decide) (by omega) u5 x5_1 ((Int.tmod (IntKind.u64.wrap (x6_1 + (IntKind.u64.wrap (rd l0 x7_1)))) 4294967296) % 4294967296) [.int .u32 ((Int.tmod (IntKind.u64.wrap (x6_1 + (IntKind.u64.wrap (rd l0 x7_1)))) 4294967296) % 4294967296)] (fun _ => True) (fun _ => False) rfl rfl ?aP (fun _ hk => hk.elim) ?aF ?aO ?aB ?aS ?aL ?_; (case aP => exact rfl); (case aB => exact (Qa0)); (case aF => exact (fun _ _ => trivial)); (case aO => exact (Qr1 HO_5.out)); (case aS => exact (Zk (Qa0))); (case aL => have := LMc11.out; omega); intro v471 w12 ho hb hg hat; rw [← Ny470.out] at ho; replace HB := Yt.mk (hb); have HO472 := Yt.mk (ho); clear HO_5; clear ho hb hg hat))
      go_roundg kj2
      case measure => have := HK1.out; have := HJ2.out; omega
      case rel => exact ⟨(y470), (IntKind.u64.wrap (Int.tdiv (IntKind.u64.wrap (x6_1 + (IntKind.u64.wrap (rd l0 x7_1)))) 4294967296)), (wrap64 (x7_1 + 1)), Qa5, Qa5, H', ⟨by have := HK1.out; have := HJ2.out; omega⟩, ⟨Qr1 HO472.out⟩, ⟨Qa0⟩⟩
     rw [if_pos c8] at H
     have c8b0 : decide (x7_1 < (l1.length : Int)) = true := decide_eq_true c8
     clear c8
     by_cases c9 : x5_1.length < 35184372088832
     rotate_left
     ·rw [if_neg c9] at H
      exact absurd H (by simp)
     rw [if_pos c9] at H
     have LMc9 := Yt.mk c9
     clear c9
     obtain ⟨y467, hy467⟩ : ∃ y_ : List Int, y_ = (x5_1 ++ [(Int.tmod (IntKind.u64.wrap ((IntKind.u64.wrap (x6_1 + (IntKind.u64.wrap (rd l0 x7_1)))) + (IntKind.u64.wrap (rd l1 x7_1)))) 4294967296) % 4294967296]) := ⟨_, rfl⟩
     replace H : (r1_Plus.l0 kj2 l0 l1 y467 (IntKind.u64.wrap (Int.tdiv (IntKind.u64.wrap ((IntKind.u64.wrap (x6_1 + (IntKind.u64.wrap (rd l0 x7_1)))) + (IntKind.u64.wrap (rd l1 x7_1)))) 4294967296)) (wrap64 (x7_1 + 1))) = some r := Qh hy467 H
     have Ny467 := Yt.mk hy467
     clear hy467
     have H' := Yt.mk H
     clear H
     have p465 : 0 ≤ (x7_1 : Int) := Qd
     have q465 : x7_1 < (l0.length : Int) := Qd
     obtain ⟨ad465, e465, hx465_0⟩ := Kd.at_int HR0.out x7_1 p465 q465
     cases e465
     replace hx465_0 := (HB.out.cell (World.block_lt_of_cell? w _ hx465_0)).trans hx465_0
     replace p465 := eq_true p465
     replace q465 := eq_true q465
     have p466 : 0 ≤ (x7_1 : Int) := Qd
     have q466 : x7_1 < (l1.length : Int) := Qd
     obtain ⟨ad466, e466, hx466_0⟩ := Kd.at_int HR1.out x7_1 p466 q466
     cases e466
     replace hx466_0 := (HB.out.cell (World.block_lt_of_cell? w _ hx466_0)).trans hx466_0
     replace p466 := eq_true p466
     replace q466 := eq_true q466
     go_wp2_with (first | ((with_reducible refine gate_builtin (b := .append) (xs := #[.tmp 42, .tmp 46]) rfl ?_); (try (refine gate_guard (by rfl) ?_; dsimp only)); at_builtin; refine Kd.R_append (Kd.int .u32) (w0 := w) w.heap.size rfl (.tmp 42) (.tmp 46) 22 47 (.int .u32 0) 4 rfl Try.underlying22 info47 rfl (by decide) (by omega) u5 x5_1 ((Int.tmod (IntKind.u64.wrap ((IntKind.u64.wrap (x6_1 + (IntKind.u64.wrap (rd l0 x7_1)))) + (IntKind.u64.wrap (rd l1 x7_1)))) 4294967296) % 4294967296) [.int .u32 ((Int.tmod (IntKind.u64.wrap ((IntKind.u64.wrap (x6_1 + (IntKind.u64.wrap (rd l0 x7_1)))) + (IntKind.u64.wrap (rd l1 x7_1)))) 4294967296) % 4294967296)] (fun _ => True) (fun _ => False) rfl rfl ?aP (fun _ hk => hk.elim) ?aF ?aO ?aB ?aS ?aL ?_; (case aP => exact rfl); (case aB => exact (Qa0)); (case aF => exact (fun _ _ => trivial)); (case aO => exact (Qr1 HO_5.out)); (case aS => exact (Zk (Qa0))); (case aL => have := LMc9.out; omega); intro v468 w10 ho hb hg hat; rw [← Ny467.out] at ho; replace HB := Yt.mk (hb); have HO469 := Yt.mk (ho); clear HO_5; clear ho hb hg hat))
     go_roundg kj2
     case measure => have := HK1.out; have := HJ2.out; omega
     case rel => exact ⟨(y467), (IntKind.u64.wrap (Int.tdiv (IntKind.u64.wrap ((IntKind.u64.wrap (x6_1 + (IntKind.u64.wrap (rd l0 x7_1)))) + (IntKind.u64.wrap (rd l1 x7_1)))) 4294967296)), (wrap64 (x7_1 + 1)), Qa5, Qa5, H', ⟨by have := HK1.out; have := HJ2.out; omega⟩, ⟨Qr1 HO469.out⟩, ⟨Qa0⟩⟩
def r1_Minus.l0 : Nat → List Int → List Int → Int → Int → Option (List Int)
 | 0, _, _, _, _ => none
 | k + 1, x5, x6, x7, x8 => if x8 < (x5.length : Int) then (if 0 ≤ x8 then (if x8 < (x6.length : Int) then (if (wrap64 ((wrap64 ((wrap64 (rd x5 x8)) - x7)) - (wrap64 (rd x6 x8)))) < 0 then (r1_Minus.l0 k (x5.set (x8 : Int).toNat ((wrap64 ((wrap64 ((wrap64 ((wrap64 (rd x5 x8)) - x7)) - (wrap64 (rd x6 x8)))) + 4294967296)) % 4294967296)) x6 1 (wrap64 (x8 + 1))) else (r1_Minus.l0 k (x5.set (x8 : Int).toNat ((wrap64 ((wrap64 ((wrap64 (rd x5 x8)) - x7)) - (wrap64 (rd x6 x8)))) % 4294967296)) x6 0 (wrap64 (x8 + 1)))) else (if (wrap64 ((wrap64 (rd x5 x8)) - x7)) < 0 then (r1_Minus.l0 k (x5.set (x8 : Int).toNat ((wrap64 ((wrap64 ((wrap64 (rd x5 x8)) - x7)) + 4294967296)) % 4294967296)) x6 1 (wrap64 (x8 + 1))) else (r1_Minus.l0 k (x5.set (x8 : Int).toNat ((wrap64 ((wrap64 (rd x5 x8)) - x7)) % 4294967296)) x6 0 (wrap64 (x8 + 1))))) else (none)) else ((r1_Trim.f k x5).bind fun t486 => (some t486))
def r1_Minus.f (k : Nat) (l0 : List Int) (l1 : List Int) : Option (List Int) := (r1_Trim.f k l0).bind fun t480 => ((r1_Trim.f k l1).bind fun t483 => (r1_Minus.l0 k t480 t483 0 0))
theorem r1_Minus.calls (k : Nat) (A0 : Option Addr) (c0 : Nat) (l0 : List Int) (A1 : Option Addr) (c1 : Nat) (l1 : List Int) (r : List Int) (w : World) (hr0 : Kd.C (Kd.int .u32) w A0 l0.length l0) (hc0 : l0.length ≤ c0) (hr1 : Kd.C (Kd.int .u32) w A1 l1.length l1) (hc1 : l1.length ≤ c1) (h : r1_Minus.f k l0 l1 = some r) :
  Calls Try.prog 45 #[.slice A0 l0.length c0, .slice A1 l1.length c1] w fun e w' => ∃ v0_ : Value, e = .returned (v0_) ∧ Kd.R (Kd.int .u32) 47 w' w.heap.size (fun _ => True) v0_ r ∧ Below w.heap.size w w' := by
 have HR0 := Yt.mk hr0
 have HC0 := Yt.mk hc0
 clear hr0 hc0
 have HR1 := Yt.mk hr1
 have HC1 := Yt.mk hc1
 clear hr1 hc1
 have HB := Yt.mk (Below.refl w.heap.size w)
 unfold r1_Minus.f at h
 have H := h
 clear h
 replace H := Option.bind_eq_some_iff.mp H
 obtain ⟨t480, A30, H⟩ := H
 try dsimp only at H
 have A3 := Yt.mk A30
 clear A30
 replace H := Option.bind_eq_some_iff.mp H
 obtain ⟨t483, A40, H⟩ := H
 replace H : (r1_Minus.l0 k t480 t483 0 0) = some r := H
 have A4 := Yt.mk A40
 clear A40
 have H' := Yt.mk H
 clear H
 go_enter Try.func45, Try.ntmps45
 go_wp2_with (first | ((with_reducible refine Zr (f := 46) rfl ?_); refine Yg (some 11) rfl rfl Try.func46 Qa7 rfl #[.slice A0 l0.length c0] rfl Qa2 ?_; (with_reducible refine (r1_Trim.calls k _ _ l0 t480 _ ?side1 ?side2 A3.out).mono ?_); (case side1 => exact Qe9 HR0.out); (case side2 => exact HC0.out); rintro e w5 ⟨v481, rfl, ho0, hb⟩; refine ⟨_, rfl, ?_⟩; have HO482 := Yt.mk (Kd.Yb ho0 (Zk (Qa0))); replace HB := Yt.mk (Zm (Qa0) hb); (try clear hb); (try clear ho0)) | ((with_reducible refine Zr (f := 46) rfl ?_); refine Yg (some 13) rfl rfl Try.func46 Qa7 rfl #[.slice A1 l1.length c1] rfl Qa2 ?_; (with_reducible refine (r1_Trim.calls k _ _ l1 t483 _ ?side1 ?side2 A4.out).mono ?_); (case side1 => exact Qe9 (Kd.Ys HR1.out HB.out)); (case side2 => exact HC1.out); rintro e w6 ⟨v484, rfl, ho0, hb⟩; refine ⟨_, rfl, ?_⟩; have HO485 := Yt.mk (Kd.Yb (Kd.Ya ho0 (Kd.R_lt (Qr1 HO482.out))) (Zk (Qa0))); replace HO482 := Yt.mk (Kd.Yf (Qr1 HO482.out) (Kd.Zw ho0) hb); replace HB := Yt.mk (Zm (Qa0) hb); (try clear hb); (try clear ho0)))
 go_loopg [7, 8] k (fun kq v7 v8 w' => ∃ (x5_1 : List Int) (x7_1 : Int) (x8_1 : Int), v7 = .int .i64 x7_1 ∧ v8 = .int .i64 x8_1 ∧ Yt (r1_Minus.l0 kq x5_1 t483 x7_1 x8_1 = some r) ∧ Yt (kq ≤ k) ∧ Yt (Kd.R (Kd.int .u32) 47 w' w.heap.size (fun k_ => some k_ ≠ (v484 : Value).ownBlock) v481 x5_1) ∧ Yt (Kd.R (Kd.int .u32) 47 w' w.heap.size (fun k_ => some k_ ≠ (v481 : Value).ownBlock) v484 t483) ∧ Yt (Below w.heap.size w w'))
 case atStart => exact ⟨(t480), (0), (0), Qa5, Qa5, H', ⟨Nat.le_refl _⟩, ⟨by (with_reducible repeat (first | apply Kd.Zf | apply Kd.Ze | apply Kd.Zj)); exact Kd.Zv HO482.out (fun _ hk => hk.2)⟩, ⟨by (with_reducible repeat (first | apply Kd.Zf | apply Kd.Ze | apply Kd.Zj)); exact Kd.Zv HO485.out (fun _ hk => hk.2)⟩, ⟨Qa0⟩⟩
 case round =>
  clear H'
  try clear c1; try clear p2; try clear c4
  obtain ⟨x5_1, x7_1, x8_1, rfl, rfl, HA, HK1, HO_5, HO_6, HB⟩ := hrel
  cases gk with
  | zero => exact absurd HA.out (by simp [r1_Minus.l0])
  | succ k1 =>
   have H := HA.out
   clear HA
   simp only [r1_Minus.l0] at H
   by_cases c7 : x8_1 < (x5_1.length : Int)
   rotate_left
   ·rw [if_neg c7] at H
    have c7b0 : decide (x8_1 < (x5_1.length : Int)) = false := decide_eq_false c7
    clear c7
    replace H := Option.bind_eq_some_iff.mp H
    obtain ⟨t486, A320, H⟩ := H
    replace H : (some t486) = some r := H
    have A32 := Yt.mk A320
    clear A320
    obtain rfl := Option.some.inj H
    obtain ⟨Ao33, co33, eo33⟩ := Kd.Zx HO_5.out
    subst eo33
    go_wp2_with (first | ((with_reducible refine Zr (f := 46) rfl ?_); refine Yg (some 48) rfl rfl Try.func46 Qa7 rfl #[.slice Ao33 x5_1.length co33] rfl Qa2 ?_; (with_reducible refine (r1_Trim.calls k1 _ _ x5_1 t486 _ ?side1 ?side2 A32.out).mono ?_); (case side1 => exact Qe9 (Kd.Zs HO_5.out).2.2); (case side2 => exact (Kd.Zs HO_5.out).2.1); rintro e w34 ⟨v487, rfl, ho0, hb⟩; refine ⟨_, rfl, ?_⟩; have HO488 := Yt.mk (Kd.Yb (Kd.Ya (Kd.Ya ho0 (Kd.R_lt (Qr1 HO_5.out))) (Kd.R_lt (Qr1 HO_6.out))) (Zk (Qa0))); replace HO_5 := Yt.mk (Kd.Yf (Qr1 HO_5.out) (Kd.Zw ho0) hb); replace HO_6 := Yt.mk (Kd.Yf (Qr1 HO_6.out) (Kd.Zw ho0) hb); replace HB := Yt.mk (Zm (Qa0) hb); (try clear hb); (try clear ho0)))
    go_ret
    exact ⟨_, Qa4, by (with_reducible repeat (first | apply Kd.Zf | apply Kd.Ze | apply Kd.Zj)); exact Kd.Zv HO488.out (fun _ hk => trivial), Qa0⟩
   rw [if_pos c7] at H
   have c7b0 : decide (x8_1 < (x5_1.length : Int)) = true := decide_eq_true c7
   clear c7
   by_cases c8 : 0 ≤ x8_1
   rotate_left
   ·rw [if_neg c8] at H
    exact absurd H (by simp)
   rw [if_pos c8] at H
   have c8b0 : decide (0 ≤ x8_1) = true := decide_eq_true c8
   clear c8
   by_cases c9 : x8_1 < (t483.length : Int)
   rotate_left
   ·rw [if_neg c9] at H
    have c9b0 : decide (x8_1 < (t483.length : Int)) = false := decide_eq_false c9
    clear c9
    by_cases c21 : (wrap64 ((wrap64 (rd x5_1 x8_1)) - x7_1)) < 0
    ·rw [if_pos c21] at H
     have c21b0 : decide ((wrap64 ((wrap64 (rd x5_1 x8_1)) - x7_1)) < 0) = true := decide_eq_true c21
     clear c21
     obtain ⟨y493, hy493⟩ : ∃ y_ : List Int, y_ = (x5_1.set (x8_1 : Int).toNat ((wrap64 ((wrap64 ((wrap64 (rd x5_1 x8_1)) - x7_1)) + 4294967296)) % 4294967296)) := ⟨_, rfl⟩
     replace H : (r1_Minus.l0 k1 y493 t483 1 (wrap64 (x8_1 + 1))) = some r := Qh hy493 H
     have Ny493 := Yt.mk hy493
     clear hy493
     have H' := Yt.mk H
     clear H
     obtain ⟨Ao23, co23, eo23⟩ := Kd.Zx HO_5.out
     subst eo23
     have p489 : 0 ≤ (x8_1 : Int) := Qd
     have q489 : x8_1 < (x5_1.length : Int) := Qd
     obtain ⟨ad489, e489, hx489_0⟩ := Kd.at_int (Kd.Zs HO_5.out).2.2 x8_1 p489 q489
     cases e489
     replace p489 := eq_true p489
     replace q489 := eq_true q489
     obtain ⟨Ao24, co24, eo24⟩ := Kd.Zx HO_6.out
     subst eo24
     have p22 : 0 ≤ (x8_1 : Int) := Qd
     have q22 : (x8_1 : Int) < ((x5_1.length : Int) : Int) := Qd
     obtain ⟨go22, co22, eo22, gb22, gl22, cl22, HG22⟩ := Kd.R_form HO_5.out (by omega)
     (first | cases eo22 | (injection eo22 with ea_ en_ ec_; (first | subst ea_ | (injection ea_ with ea_; subst ea_)); subst ec_; clear en_))
     have GB22 := Yt.mk gb22
     have GG22 := Yt.mk HG22
     clear gb22 gl22 HG22
     (first | simp only [add_plain] at hx489_0 | skip)
     obtain ⟨hx22_0, hf22_0⟩ := Kd.R_celln 0 HO_5.out (x8_1 : Int) p22 q22
     replace p22 := eq_true p22
     replace q22 := eq_true q22
     obtain ⟨hy25_, hz25_⟩ := Kd.R_celln 0 HO_5.out (x8_1 : Int) (Qd) (Qd)
     have HP25 := Kd.R_putg HO_5.out (x8_1 : Int) ((wrap64 ((wrap64 ((wrap64 (rd x5_1 x8_1)) - x7_1)) + 4294967296)) % 4294967296)
     go_wp2_with (first | ((with_reducible refine gate_store (t := 47) (p := 46) rfl ?_); refine store_event (t := 47) (p := 46) (v := ?vo_w26) (w1 := (wr.setCell ⟨go22, (x8_1 : Int).toNat, none⟩ (.int .u32 ((wrap64 ((wrap64 ((wrap64 (rd x5_1 x8_1)) - x7_1)) + 4294967296)) % 4294967296)))) ?hg ?ho ?hn ?hr ?_; (case ho => rfl); (case hg => rfl); (case hn => rfl); (case hr => exact Qa8); intro w26 hw; have hg : wr.grownBy w26 (some go22) := (by rw [hw]; exact HP25.2); have hp_ : Kd.R (Kd.int .u32) 47 w26 w.heap.size (fun k_ => some k_ ≠ (.slice Ao24 t483.length co24 : Value).ownBlock) (.slice (some ⟨go22, 0, none⟩) x5_1.length co23) y493 := (by rw [hw, Ny493.out]; exact HP25.1); clear HP25; replace HO_5 := Yt.mk (hp_); replace HO_6 := Yt.mk (Kd.R_after (v := (.slice (some ⟨go22, 0, none⟩) x5_1.length co23)) (v1 := (.slice (some ⟨go22, 0, none⟩) x5_1.length co23)) (ok := (fun _ => True)) (by (with_reducible repeat (first | apply Kd.Zf | apply Kd.Ze | apply Kd.Zj)); exact Kd.Zv HO_6.out (fun _ hk => ⟨trivial, hk⟩)) hg (.inl rfl)); replace HB := Yt.mk ((by rw [hw]; exact Zd (HB.out) GB22.out : Below w.heap.size w w26)); clear hg hw hp_))
     go_roundg k1
     case measure => have := HK1.out; omega
     case rel => exact ⟨(y493), (1), (wrap64 (x8_1 + 1)), Qa5, Qa5, H', ⟨by have := HK1.out; omega⟩, ⟨Qr1 HO_5.out⟩, ⟨by (with_reducible repeat (first | apply Kd.Zf | apply Kd.Ze | apply Kd.Zj)); exact Kd.Zv HO_6.out (fun _ hk => hk.2)⟩, ⟨Qa0⟩⟩
    rw [if_neg c21] at H
    have c21b0 : decide ((wrap64 ((wrap64 (rd x5_1 x8_1)) - x7_1)) < 0) = false := decide_eq_false c21
    clear c21
    obtain ⟨y494, hy494⟩ : ∃ y_ : List Int, y_ = (x5_1.set (x8_1 : Int).toNat ((wrap64 ((wrap64 (rd x5_1 x8_1)) - x7_1)) % 4294967296)) := ⟨_, rfl⟩
    replace H : (r1_Minus.l0 k1 y494 t483 0 (wrap64 (x8_1 + 1))) = some r := Qh hy494 H
    have Ny494 := Yt.mk hy494
    clear hy494
    have H' := Yt.mk H
    clear H
    obtain ⟨Ao28, co28, eo28⟩ := Kd.Zx HO_5.out
    subst eo28
    have p489 : 0 ≤ (x8_1 : Int) := Qd
    have q489 : x8_1 < (x5_1.length : Int) := Qd
    obtain ⟨ad489, e489, hx489_0⟩ := Kd.at_int (Kd.Zs HO_5.out).2.2 x8_1 p489 q489
    cases e489
    replace p489 := eq_true p489
    replace q489 := eq_true q489
    obtain ⟨Ao29, co29, eo29⟩ := Kd.Zx HO_6.out
    subst eo29
    have p27 : 0 ≤ (x8_1 : Int) := Qd
    have q27 : (x8_1 : Int) < ((x5_1.length : Int) : Int) := Qd
    obtain ⟨go27, co27, eo27, gb27, gl27, cl27, HG27⟩ := Kd.R_form HO_5.out (by omega)
    (first | cases eo27 | (injection eo27 with ea_ en_ ec_; (first | subst ea_ | (injection ea_ with ea_; subst ea_)); subst ec_; clear en_))
    have GB27 := Yt.mk gb27
    have GG27 := Yt.mk HG27
    clear gb27 gl27 HG27
    (first | simp only [add_plain] at hx489_0 | skip)
    obtain ⟨hx27_0, hf27_0⟩ := Kd.R_celln 0 HO_5.out (x8_1 : Int) p27 q27
    replace p27 := eq_true p27
    replace q27 := eq_true q27
    obtain ⟨hy30_, hz30_⟩ := Kd.R_celln 0 HO_5.out (x8_1 : Int) (Qd) (Qd)
    have HP30 := Kd.R_putg HO_5.out (x8_1 : Int) ((wrap64 ((wrap64 (rd x5_1 x8_1)) - x7_1)) % 4294967296)
    go_wp2_with (first | ((with_reducible refine gate_store (t := 47) (p := 46) rfl ?_); refine store_event (t := 47) (p := 46) (v := ?vo_w31) (w1 := (wr.setCell ⟨go27, (x8_1 : Int).toNat, none⟩ (.int .u32 ((wrap64 ((wrap64 (rd x5_1 x8_1)) - x7_1)) % 4294967296)))) ?hg ?ho ?hn ?hr ?_; (case ho => rfl); (case hg => rfl); (case hn => rfl); (case hr => exact Qa8); intro w31 hw; have hg : wr.grownBy w31 (some go27) := (by rw [hw]; exact HP30.2); have hp_ : Kd.R (Kd.int .u32) 47 w31 w.heap.size (fun k_ => some k_ ≠ (.slice Ao29 t483.length co29 : Value).ownBlock) (.slice (some ⟨go27, 0, none⟩) x5_1.length co28) y494 := (by rw [hw, Ny494.out]; exact HP30.1); clear HP30; replace HO_5 := Yt.mk (hp_); replace HO_6 := Yt.mk (Kd.R_after (v := (.slice (some ⟨go27, 0, none⟩) x5_1.length co28)) (v1 := (.slice (some ⟨go27, 0, none⟩) x5_1.length co28)) (ok := (fun _ => True)) (by (with_reducible repeat (first | apply Kd.Zf | apply Kd.Ze | apply Kd.Zj)); exact Kd.Zv HO_6.out (fun _ hk => ⟨trivial, hk⟩)) hg (.inl rfl)); replace HB := Yt.mk ((by rw [hw]; exact Zd (HB.out) GB27.out : Below w.heap.size w w31)); clear hg hw hp_))
    go_roundg k1
    case measure => have := HK1.out; omega
    case rel => exact ⟨(y494), (0), (wrap64 (x8_1 + 1)), Qa5, Qa5, H', ⟨by have := HK1.out; omega⟩, ⟨Qr1 HO_5.out⟩, ⟨by (with_reducible repeat (first | apply Kd.Zf | apply Kd.Ze | apply Kd.Zj)); exact Kd.Zv HO_6.out (fun _ hk => hk.2)⟩, ⟨Qa0⟩⟩
   rw [if_pos c9] at H
   have c9b0 : decide (x8_1 < (t483.length : Int)) = true := decide_eq_true c9
   clear c9
   by_cases c10 : (wrap64 ((wrap64 ((wrap64 (rd x5_1 x8_1)) - x7_1)) - (wrap64 (rd t483 x8_1)))) < 0
   ·rw [if_pos c10] at H
    have c10b0 : decide ((wrap64 ((wrap64 ((wrap64 (rd x5_1 x8_1)) - x7_1)) - (wrap64 (rd t483 x8_1)))) < 0) = true := decide_eq_true c10
    clear c10
    obtain ⟨y491, hy491⟩ : ∃ y_ : List Int, y_ = (x5_1.set (x8_1 : Int).toNat ((wrap64 ((wrap64 ((wrap64 ((wrap64 (rd x5_1 x8_1)) - x7_1)) - (wrap64 (rd t483 x8_1)))) + 4294967296)) % 4294967296)) := ⟨_, rfl⟩
    replace H : (r1_Minus.l0 k1 y491 t483 1 (wrap64 (x8_1 + 1))) = some r := Qh hy491 H
    have Ny491 := Yt.mk hy491
    clear hy491
    have H' := Yt.mk H
    clear H
    obtain ⟨Ao12, co12, eo12⟩ := Kd.Zx HO_5.out
    subst eo12
    have p489 : 0 ≤ (x8_1 : Int) := Qd
    have q489 : x8_1 < (x5_1.length : Int) := Qd
    obtain ⟨ad489, e489, hx489_0⟩ := Kd.at_int (Kd.Zs HO_5.out).2.2 x8_1 p489 q489
    cases e489
    replace p489 := eq_true p489
    replace q489 := eq_true q489
    obtain ⟨Ao13, co13, eo13⟩ := Kd.Zx HO_6.out
    subst eo13
    have p490 : 0 ≤ (x8_1 : Int) := Qd
    have q490 : x8_1 < (t483.length : Int) := Qd
    obtain ⟨ad490, e490, hx490_0⟩ := Kd.at_int (Kd.Zs HO_6.out).2.2 x8_1 p490 q490
    cases e490
    replace p490 := eq_true p490
    replace q490 := eq_true q490
    have p11 : 0 ≤ (x8_1 : Int) := Qd
    have q11 : (x8_1 : Int) < ((x5_1.length : Int) : Int) := Qd
    obtain ⟨go11, co11, eo11, gb11, gl11, cl11, HG11⟩ := Kd.R_form HO_5.out (by omega)
    (first | cases eo11 | (injection eo11 with ea_ en_ ec_; (first | subst ea_ | (injection ea_ with ea_; subst ea_)); subst ec_; clear en_))
    have GB11 := Yt.mk gb11
    have GG11 := Yt.mk HG11
    clear gb11 gl11 HG11
    (first | simp only [add_plain] at hx489_0 | skip)
    obtain ⟨hx11_0, hf11_0⟩ := Kd.R_celln 0 HO_5.out (x8_1 : Int) p11 q11
    replace p11 := eq_true p11
    replace q11 := eq_true q11
    obtain ⟨hy14_, hz14_⟩ := Kd.R_celln 0 HO_5.out (x8_1 : Int) (Qd) (Qd)
    have HP14 := Kd.R_putg HO_5.out (x8_1 : Int) ((wrap64 ((wrap64 ((wrap64 ((wrap64 (rd x5_1 x8_1)) - x7_1)) - (wrap64 (rd t483 x8_1)))) + 4294967296)) % 4294967296)
    go_wp2_with (first | ((with_reducible refine gate_store (t := 47) (p := 46) rfl ?_); refine store_event (t := 47) (p := 46) (v := ?vo_w15) (w1 := (wr.setCell ⟨go11, (x8_1 : Int).toNat, none⟩ (.int .u32 ((wrap64 ((wrap64 ((wrap64 ((wrap64 (rd x5_1 x8_1)) - x7_1)) - (wrap64 (rd t483 x8_1)))) + 4294967296)) % 4294967296)))) ?hg ?ho ?hn ?hr ?_; (case ho => rfl); (case hg => rfl); (case hn => rfl); (case hr => exact Qa8); intro w15 hw; have hg : wr.grownBy w15 (some go11) := (by rw [hw]; exact HP14.2); have hp_ : Kd.R (Kd.int .u32) 47 w15 w.heap.size (fun k_ => some k_ ≠ (.slice (some ad490) t483.length co13 : Value).ownBlock) (.slice (some ⟨go11, 0, none⟩) x5_1.length co12) y491 := (by rw [hw, Ny491.out]; exact HP14.1); clear HP14; replace HO_5 := Yt.mk (hp_); replace HO_6 := Yt.mk (Kd.R_after (v := (.slice (some ⟨go11, 0, none⟩) x5_1.length co12)) (v1 := (.slice (some ⟨go11, 0, none⟩) x5_1.length co12)) (ok := (fun _ => True)) (by (with_reducible repeat (first | apply Kd.Zf | apply Kd.Ze | apply Kd.Zj)); exact Kd.Zv HO_6.out (fun _ hk => ⟨trivial, hk⟩)) hg (.inl rfl)); replace HB := Yt.mk ((by rw [hw]; exact Zd (HB.out) GB11.out : Below w.heap.size w w15)); clear hg hw hp_))
    go_roundg k1
    case measure => have := HK1.out; omega
    case rel => exact ⟨(y491), (1), (wrap64 (x8_1 + 1)), Qa5, Qa5, H', ⟨by have := HK1.out; omega⟩, ⟨Qr1 HO_5.out⟩, ⟨by (with_reducible repeat (first | apply Kd.Zf | apply Kd.Ze | apply Kd.Zj)); exact Kd.Zv HO_6.out (fun _ hk => hk.2)⟩, ⟨Qa0⟩⟩
   rw [if_neg c10] at H
   have c10b0 : decide ((wrap64 ((wrap64 ((wrap64 (rd x5_1 x8_1)) - x7_1)) - (wrap64 (rd t483 x8_1)))) < 0) = false := decide_eq_false c10
   clear c10
   obtain ⟨y492, hy492⟩ : ∃ y_ : List Int, y_ = (x5_1.set (x8_1 : Int).toNat ((wrap64 ((wrap64 ((wrap64 (rd x5_1 x8_1)) - x7_1)) - (wrap64 (rd t483 x8_1)))) % 4294967296)) := ⟨_, rfl⟩
   replace H : (r1_Minus.l0 k1 y492 t483 0 (wrap64 (x8_1 + 1))) = some r := Qh hy492 H
   have Ny492 := Yt.mk hy492
   clear hy492
   have H' := Yt.mk H
   clear H
   obtain ⟨Ao17, co17, eo17⟩ := Kd.Zx HO_5.out
   subst eo17
   have p489 : 0 ≤ (x8_1 : Int) := Qd
   have q489 : x8_1 < (x5_1.length : Int) := Qd
   obtain ⟨ad489, e489, hx489_0⟩ := Kd.at_int (Kd.Zs HO_5.out).2.2 x8_1 p489 q489
   cases e489
   replace p489 := eq_true p489
   replace q489 := eq_true q489
   obtain ⟨Ao18, co18, eo18⟩ := Kd.Zx HO_6.out
   subst eo18
   have p490 : 0 ≤ (x8_1 : Int) := Qd
   have q490 : x8_1 < (t483.length : Int) := Qd
   obtain ⟨ad490, e490, hx490_0⟩ := Kd.at_int (Kd.Zs HO_6.out).2.2 x8_1 p490 q490
   cases e490
   replace p490 := eq_true p490
   replace q490 := eq_true q490
   have p16 : 0 ≤ (x8_1 : Int) := Qd
   have q16 : (x8_1 : Int) < ((x5_1.length : Int) : Int) := Qd
   obtain ⟨go16, co16, eo16, gb16, gl16, cl16, HG16⟩ := Kd.R_form HO_5.out (by omega)
   (first | cases eo16 | (injection eo16 with ea_ en_ ec_; (first | subst ea_ | (injection ea_ with ea_; subst ea_)); subst ec_; clear en_))
   have GB16 := Yt.mk gb16
   have GG16 := Yt.mk HG16
   clear gb16 gl16 HG16
   (first | simp only [add_plain] at hx489_0 | skip)
   obtain ⟨hx16_0, hf16_0⟩ := Kd.R_celln 0 HO_5.out (x8_1 : Int) p16 q16
   replace p16 := eq_true p16
   replace q16 := eq_true q16
   obtain ⟨hy19_, hz19_⟩ := Kd.R_celln 0 HO_5.out (x8_1 : Int) (Qd) (Qd)
   have HP19 := Kd.R_putg HO_5.out (x8_1 : Int) ((wrap64 ((wrap64 ((wrap64 (rd x5_1 x8_1)) - x7_1)) - (wrap64 (rd t483 x8_1)))) % 4294967296)
   go_wp2_with (first | ((with_reducible refine gate_store (t := 47) (p := 46) rfl ?_); refine store_event (t := 47) (p := 46) (v := ?vo_w20) (w1 := (wr.setCell ⟨go16, (x8_1 : Int).toNat, none⟩ (.int .u32 ((wrap64 ((wrap64 ((wrap64 (rd x5_1 x8_1)) - x7_1)) - (wrap64 (rd t483 x8_1)))) % 4294967296)))) ?hg ?ho ?hn ?hr ?_; (case ho => rfl); (case hg => rfl); (case hn => rfl); (case hr => exact Qa8); intro w20 hw; have hg : wr.grownBy w20 (some go16) := (by rw [hw]; exact HP19.2); have hp_ : Kd.R (Kd.int .u32) 47 w20 w.heap.size (fun k_ => some k_ ≠ (.slice (some ad490) t483.length co18 : Value).ownBlock) (.slice (some ⟨go16, 0, none⟩) x5_1.length co17) y492 := (by rw [hw, Ny492.out]; exact HP19.1); clear HP19; replace HO_5 := Yt.mk (hp_); replace HO_6 := Yt.mk (Kd.R_after (v := (.slice (some ⟨go16, 0, none⟩) x5_1.length co17)) (v1 := (.slice (some ⟨go16, 0, none⟩) x5_1.length co17)) (ok := (fun _ => True)) (by (with_reducible repeat (first | apply Kd.Zf | apply Kd.Ze | apply Kd.Zj)); exact Kd.Zv HO_6.out (fun _ hk => ⟨trivial, hk⟩)) hg (.inl rfl)); replace HB := Yt.mk ((by rw [hw]; exact Zd (HB.out) GB16.out : Below w.heap.size w w20)); clear hg hw hp_))
   go_roundg k1
   case measure => have := HK1.out; omega
   case rel => exact ⟨(y492), (0), (wrap64 (x8_1 + 1)), Qa5, Qa5, H', ⟨by have := HK1.out; omega⟩, ⟨Qr1 HO_5.out⟩, ⟨by (with_reducible repeat (first | apply Kd.Zf | apply Kd.Ze | apply Kd.Zj)); exact Kd.Zv HO_6.out (fun _ hk => hk.2)⟩, ⟨Qa0⟩⟩
def r1_Shl.l0 : Nat → List Int → Int → List Int → Int → Int → Option (List Int)
 | 0, _, _, _, _, _ => none
 | k + 1, x0, x1, x5, x6, x7 => if x7 < (x0.length : Int) then (if 0 ≤ x7 then (if 0 ≤ (IntKind.u64.wrap (Int.tmod x1 32)) then (if x5.length < 35184372088832 then (r1_Shl.l0 k x0 x1 (x5 ++ [(Int.tmod (IntKind.u64.wrap ((shl .u64 (IntKind.u64.wrap (rd x0 x7)) (IntKind.u64.wrap (Int.tmod x1 32))) + x6)) 4294967296) % 4294967296]) (IntKind.u64.wrap (Int.tdiv (IntKind.u64.wrap ((shl .u64 (IntKind.u64.wrap (rd x0 x7)) (IntKind.u64.wrap (Int.tmod x1 32))) + x6)) 4294967296)) (wrap64 (x7 + 1))) else (none)) else (none)) else (none)) else (if x5.length < 35184372088832 then ((r1_Trim.f k (x5 ++ [(x6) % 4294967296])).bind fun t505 => (some t505)) else (none))
def r1_Shl.f (k : Nat) (l0 : List Int) (a1 : Int) : Option (List Int) := if 0 ≤ (wrap64 (Int.tdiv a1 32)) then (if (wrap64 (Int.tdiv a1 32) : Int).toNat ≤ 70368744177664 then (r1_Shl.l0 k l0 a1 (List.replicate (wrap64 (Int.tdiv a1 32) : Int).toNat 0) 0 0) else (none)) else (none)
theorem r1_Shl.calls (k : Nat) (A0 : Option Addr) (c0 : Nat) (l0 : List Int) (a1 : Int) (r : List Int) (w : World) (hr0 : Kd.C (Kd.int .u32) w A0 l0.length l0) (hc0 : l0.length ≤ c0) (h : r1_Shl.f k l0 a1 = some r) :
  Calls Try.prog 84 #[.slice A0 l0.length c0, .int .i64 a1] w fun e w' => ∃ v0_ : Value, e = .returned (v0_) ∧ Kd.R (Kd.int .u32) 47 w' w.heap.size (fun _ => True) v0_ r ∧ Below w.heap.size w w' := by
 have HR0 := Yt.mk hr0
 have HC0 := Yt.mk hc0
 clear hr0 hc0
 have HB := Yt.mk (Below.refl w.heap.size w)
 unfold r1_Shl.f at h
 have H := h
 clear h
 obtain ⟨ji3, hji3⟩ : ∃ j_ : Int, (wrap64 (Int.tdiv a1 32)) = j_ := ⟨_, rfl⟩
 replace H : (if 0 ≤ (ji3) then (if (ji3 : Int).toNat ≤ 70368744177664 then (r1_Shl.l0 k l0 a1 (List.replicate (ji3 : Int).toNat 0) 0 0) else (none)) else (none)) = some r := by first | (rw [hji3] at H; exact H) | (simp only [hji3] at H ⊢; exact H)
 have hji3w : (IntKind.i64.wrap (Int.tdiv a1 32)) = ji3 := (Yi _).trans hji3
 by_cases c4 : 0 ≤ (ji3)
 rotate_left
 ·rw [if_neg c4] at H
  exact absurd H (by simp)
 rw [if_pos c4] at H
 have c4b0 := eq_true c4
 have c4b1 : decide (0 ≤ (ji3)) = true := decide_eq_true c4
 clear c4
 by_cases c5 : (ji3 : Int).toNat ≤ 70368744177664
 rotate_left
 ·rw [if_neg c5] at H
  exact absurd H (by simp)
 rw [if_pos c5] at H
 have c5b0 := eq_true c5
 have c5b1 : decide ((ji3 : Int).toNat ≤ 70368744177664) = true := decide_eq_true c5
 clear c5
 obtain ⟨y495, hy495⟩ : ∃ y_ : List Int, y_ = (List.replicate (ji3 : Int).toNat 0) := ⟨_, rfl⟩
 replace H : (r1_Shl.l0 k l0 a1 y495 0 0) = some r := Qh hy495 H
 have Ny495 := Yt.mk hy495
 clear hy495
 have H' := Yt.mk H
 clear H
 go_enter Try.func84, Try.ntmps84
 go_wp2_with (first | ((with_reducible refine Yk (N := 11) rfl ?_); refine Kd.R_make (Kd.int .u32) _ 47 rfl (N := 11) rfl 22 _ _ rfl ji3 rfl rfl Try.underlying22 (.int .u32 0) 4 info47 rfl (by decide) (by omega) 0 (ok := fun _ => True) (okp := fun _ => True) rfl (fun _ hk => hk) trivial (Qd) (Nat.le_trans (Nat.mul_le_mul_right _ (Qd : ji3.toNat ≤ 70368744177664)) (by omega)) (Below.refl _ _) (Nat.le_refl _) ?_; intro v496 w6 ho7 hb hg_ hnew_; clear hg_ hnew_; (first | rw [← Ny495.out] at ho7 | (simp only [Int.reduceToNat] at ho7; rw [← Ny495.out] at ho7)); have HO497 := Yt.mk (Kd.Yb ho7 (Zk (Qa0))); replace HB := Yt.mk (Zm (Qa0) hb); clear hb ho7))
 go_loopg [5, 6, 7] k (fun kq v5 v6 v7 w' => ∃ (x5_1 : List Int) (x6_1 : Int) (x7_1 : Int), v6 = .int .u64 x6_1 ∧ v7 = .int .i64 x7_1 ∧ Yt (r1_Shl.l0 kq l0 a1 x5_1 x6_1 x7_1 = some r) ∧ Yt (kq ≤ k) ∧ Yt (Kd.R (Kd.int .u32) 47 w' w.heap.size (fun _ => True) v5 x5_1) ∧ Yt (Below w.heap.size w w'))
 case atStart => exact ⟨(y495), (0), (0), Qa5, Qa5, H', ⟨Nat.le_refl _⟩, ⟨Qr1 HO497.out⟩, ⟨Qa0⟩⟩
 case round =>
  clear H'
  try clear p2; try clear c4; try clear c4b0; try clear c4b1; try clear c5; try clear c5b0; try clear c5b1; try clear p6
  obtain ⟨x5_1, x6_1, x7_1, rfl, rfl, HA, HK1, HO_5, HB⟩ := hrel
  cases gk with
  | zero => exact absurd HA.out (by simp [r1_Shl.l0])
  | succ k1 =>
   have H := HA.out
   clear HA
   simp only [r1_Shl.l0] at H
   by_cases c8 : x7_1 < (l0.length : Int)
   rotate_left
   ·rw [if_neg c8] at H
    have c8b0 : decide (x7_1 < (l0.length : Int)) = false := decide_eq_false c8
    clear c8
    by_cases c14 : x5_1.length < 35184372088832
    rotate_left
    ·rw [if_neg c14] at H
     exact absurd H (by simp)
    rw [if_pos c14] at H
    have LMc14 := Yt.mk c14
    clear c14
    obtain ⟨y502, hy502⟩ : ∃ y_ : List Int, y_ = (x5_1 ++ [(x6_1) % 4294967296]) := ⟨_, rfl⟩
    replace H : ((r1_Trim.f k1 y502).bind fun t505 => (some t505)) = some r := Qh hy502 H
    have Ny502 := Yt.mk hy502
    clear hy502
    replace H := Option.bind_eq_some_iff.mp H
    obtain ⟨t505, A150, H⟩ := H
    replace H : (some t505) = some r := H
    have A15 := Yt.mk A150
    clear A150
    obtain rfl := Option.some.inj H
    go_wp2_with (first | ((with_reducible refine gate_builtin (b := .append) (xs := #[.tmp 37, .tmp 40]) rfl ?_); at_builtin; refine Kd.R_append (Kd.int .u32) (w0 := w) w.heap.size rfl (.tmp 37) (.tmp 40) 22 47 (.int .u32 0) 4 rfl Try.underlying22 info47 rfl (by decide) (by omega) u5 x5_1 ((x6_1) % 4294967296) [.int .u32 ((x6_1) % 4294967296)] (fun _ => True) (fun _ => False) rfl rfl ?aP (fun _ hk => hk.elim) ?aF ?aO ?aB ?aS ?aL ?_; (case aP => exact rfl); (case aB => exact (Qa0)); (case aF => exact (fun _ _ => trivial)); (case aO => exact (Qr1 HO_5.out)); (case aS => exact (Zk (Qa0))); (case aL => have := LMc14.out; omega); intro v503 w16 ho hb hg hat; rw [← Ny502.out] at ho; replace HB := Yt.mk (hb); have HO504 := Yt.mk (ho); clear HO_5; clear ho hb hg hat; obtain ⟨Ao17, co17, eo17⟩ := Kd.Zx HO504.out; subst eo17) | ((with_reducible refine Zr (f := 46) rfl ?_); refine Yg (some 43) rfl rfl Try.func46 Qa7 rfl #[.slice Ao17 y502.length co17] rfl Qa2 ?_; (with_reducible refine (r1_Trim.calls k1 _ _ y502 t505 _ ?side1 ?side2 A15.out).mono ?_); (case side1 => exact Qe9 (Kd.Zs HO504.out).2.2); (case side2 => exact (Kd.Zs HO504.out).2.1); rintro e w18 ⟨v506, rfl, ho0, hb⟩; refine ⟨_, rfl, ?_⟩; have HO507 := Yt.mk (Kd.Yb (Kd.Ya ho0 (Kd.R_lt (Qr1 HO504.out))) (Zk (Qa0))); replace HO504 := Yt.mk (Kd.Yf (Qr1 HO504.out) (Kd.Zw ho0) hb); replace HB := Yt.mk (Zm (Qa0) hb); (try clear hb); (try clear ho0)))
    go_ret
    exact ⟨_, by first | rfl | (simp [Zp, Zo] <;> rfl) | (simp only [← hji3]; first | rfl | (simp [Zp, Zo] <;> rfl)) | (simp [*, Zp, Zo] <;> rfl), by (with_reducible repeat (first | apply Kd.Zf | apply Kd.Ze | apply Kd.Zj)); exact Kd.Zv HO507.out (fun _ hk => trivial), Qa0⟩
   rw [if_pos c8] at H
   have c8b0 : decide (x7_1 < (l0.length : Int)) = true := decide_eq_true c8
   clear c8
   by_cases c9 : 0 ≤ x7_1
   rotate_left
   ·rw [if_neg c9] at H
    exact absurd H (by simp)
   rw [if_pos c9] at H
   have c9b0 : decide (0 ≤ x7_1) = true := decide_eq_true c9
   clear c9
   by_cases c10 : 0 ≤ (IntKind.u64.wrap (Int.tmod a1 32))
   rotate_left
   ·rw [if_neg c10] at H
    exact absurd H (by simp)
   rw [if_pos c10] at H
   have c10b0 := eq_true c10
   have c10b1 : decide (0 ≤ (IntKind.u64.wrap (Int.tmod a1 32))) = true := decide_eq_true c10
   clear c10
   obtain ⟨ji11, hji11⟩ : ∃ j_ : Int, (shl .u64 (IntKind.u64.wrap (rd l0 x7_1)) (IntKind.u64.wrap (Int.tmod a1 32))) = j_ := ⟨_, rfl⟩
   replace H : (if x5_1.length < 35184372088832 then (r1_Shl.l0 k1 l0 a1 (x5_1 ++ [(Int.tmod (IntKind.u64.wrap ((ji11) + x6_1)) 4294967296) % 4294967296]) (IntKind.u64.wrap (Int.tdiv (IntKind.u64.wrap ((ji11) + x6_1)) 4294967296)) (wrap64 (x7_1 + 1))) else (none)) = some r := by first | (rw [hji11] at H; exact H) | (simp only [hji11] at H ⊢; exact H)
   have hji11_ : (IntKind.u64.wrap ((IntKind.u64.wrap (rd l0 x7_1)) * 2 ^ min (IntKind.u64.wrap (Int.tmod a1 32)).toNat 64)) = ji11 := hji11
   have hji11z : (IntKind.u64.wrap (Int.tmod a1 32)) ≤ 64 → (IntKind.u64.wrap ((IntKind.u64.wrap (rd l0 x7_1)) * 2 ^ (IntKind.u64.wrap (Int.tmod a1 32)).toNat)) = ji11 := shl_small hji11
   by_cases c12 : x5_1.length < 35184372088832
   rotate_left
   ·rw [if_neg c12] at H
    exact absurd H (by simp)
   rw [if_pos c12] at H
   have LMc12 := Yt.mk c12
   clear c12
   obtain ⟨y499, hy499⟩ : ∃ y_ : List Int, y_ = (x5_1 ++ [(Int.tmod (IntKind.u64.wrap ((ji11) + x6_1)) 4294967296) % 4294967296]) := ⟨_, rfl⟩
   replace H : (r1_Shl.l0 k1 l0 a1 y499 (IntKind.u64.wrap (Int.tdiv (IntKind.u64.wrap ((ji11) + x6_1)) 4294967296)) (wrap64 (x7_1 + 1))) = some r := Qh hy499 H
   have Ny499 := Yt.mk hy499
   clear hy499
   have H' := Yt.mk H
   clear H
   have p498 : 0 ≤ (x7_1 : Int) := Qd
   have q498 : x7_1 < (l0.length : Int) := Qd
   obtain ⟨ad498, e498, hx498_0⟩ := Kd.at_int HR0.out x7_1 p498 q498
   cases e498
   replace hx498_0 := (HB.out.cell (World.block_lt_of_cell? w _ hx498_0)).trans hx498_0
   replace p498 := eq_true p498
   replace q498 := eq_true q498
   go_wp2_with (first | ((with_reducible refine gate_builtin (b := .append) (xs := #[.tmp 29, .tmp 33]) rfl ?_); at_builtin; refine Kd.R_append (Kd.int .u32) (w0 := w) w.heap.size rfl (.tmp 29) (.tmp 33) 22 47 (.int .u32 0) 4 rfl Try.underlying22 info47 rfl (by decide) (by omega) u5 x5_1 ((Int.tmod (IntKind.u64.wrap ((ji11) + x6_1)) 4294967296) % 4294967296) [.int .u32 ((Int.tmod (IntKind.u64.wrap ((ji11) + x6_1)) 4294967296) % 4294967296)] (fun _ => True) (fun _ => False) rfl rfl ?aP (fun _ hk => hk.elim) ?aF ?aO ?aB ?aS ?aL ?_; (case aP => exact rfl); (case aB => exact (Qa0)); (case aF => exact (fun _ _ => trivial)); (case aO => exact (Qr1 HO_5.out)); (case aS => exact (Zk (Qa0))); (case aL => have := LMc12.out; omega); intro v500 w13 ho hb hg hat; rw [← Ny499.out] at ho; replace HB := Yt.mk (hb); have HO501 := Yt.mk (ho); clear HO_5; clear ho hb hg hat))
   go_roundg k1
   case measure => have := HK1.out; omega
   case rel => exact ⟨(y499), (IntKind.u64.wrap (Int.tdiv (IntKind.u64.wrap ((ji11) + x6_1)) 4294967296)), (wrap64 (x7_1 + 1)), (by first | rfl | (simp; done) | (simp only [← hji11] <;> (first | rfl | simp)) | (simp [*]; done)), Qa5, H', ⟨by have := HK1.out; omega⟩, ⟨Qr1 HO501.out⟩, ⟨Qa0⟩⟩
def r1_Bit.f (l0 : List Int) (a1 : Int) : Option (Bool) := if a1 < 0 then (some false) else (if (wrap64 (Int.tdiv a1 32)) ≥ (l0.length : Int) then (some false) else (if 0 ≤ (wrap64 (Int.tdiv a1 32)) then (if (wrap64 (Int.tdiv a1 32)) < (l0.length : Int) then (if 0 ≤ (IntKind.u64.wrap (Int.tmod a1 32)) then (some ((Int.tmod (shr .u32 (rd l0 (wrap64 (Int.tdiv a1 32))) (IntKind.u64.wrap (Int.tmod a1 32))) 2) == 1)) else (none)) else (none)) else (none)))
theorem r1_Bit.calls (A0 : Option Addr) (c0 : Nat) (l0 : List Int) (a1 : Int) (r : Bool) (w : World) (hr0 : Kd.C (Kd.int .u32) w A0 l0.length l0) (hc0 : l0.length ≤ c0) (h : r1_Bit.f l0 a1 = some r) :
  Calls Try.prog 85 #[.slice A0 l0.length c0, .int .i64 a1] w fun e w' => e = .returned (.bool r) ∧ Drawn0 w w' := by
 have HR0 := Yt.mk hr0
 have HC0 := Yt.mk hc0
 clear hr0 hc0
 unfold r1_Bit.f at h
 have H := h
 clear h
 by_cases c3 : a1 < 0
 ·rw [if_pos c3] at H
  have c3b0 : decide (a1 < 0) = true := decide_eq_true c3
  clear c3
  obtain rfl := Option.some.inj H
  go_enter Try.func85, Try.ntmps85
  go_wp2
  go_ret
  exact ⟨by first | rfl | (simp; done) | (simp [*]; done), Qa10⟩
 rw [if_neg c3] at H
 have c3b0 : decide (a1 < 0) = false := decide_eq_false c3
 clear c3
 by_cases c4 : (wrap64 (Int.tdiv a1 32)) ≥ (l0.length : Int)
 ·rw [if_pos c4] at H
  have c4b0 : decide ((l0.length : Int) ≤ (wrap64 (Int.tdiv a1 32))) = true := decide_eq_true c4
  clear c4
  obtain rfl := Option.some.inj H
  go_enter Try.func85, Try.ntmps85
  go_wp2
  go_ret
  exact ⟨by first | rfl | (simp; done) | (simp [*]; done), Qa10⟩
 rw [if_neg c4] at H
 have c4b0 : decide ((l0.length : Int) ≤ (wrap64 (Int.tdiv a1 32))) = false := decide_eq_false c4
 clear c4
 obtain ⟨ji5, hji5⟩ : ∃ j_ : Int, (wrap64 (Int.tdiv a1 32)) = j_ := ⟨_, rfl⟩
 replace H : (if 0 ≤ (ji5) then (if (ji5) < (l0.length : Int) then (if 0 ≤ (IntKind.u64.wrap (Int.tmod a1 32)) then (some ((Int.tmod (shr .u32 (rd l0 (ji5)) (IntKind.u64.wrap (Int.tmod a1 32))) 2) == 1)) else (none)) else (none)) else (none)) = some r := by first | (rw [hji5] at H; exact H) | (simp only [hji5] at H ⊢; exact H)
 (try rw [hji5] at c4b0)
 have hji5w : (IntKind.i64.wrap (Int.tdiv a1 32)) = ji5 := (Yi _).trans hji5
 by_cases c6 : 0 ≤ (ji5)
 rotate_left
 ·rw [if_neg c6] at H
  exact absurd H (by simp)
 rw [if_pos c6] at H
 have c6b0 : decide (0 ≤ (ji5)) = true := decide_eq_true c6
 clear c6
 by_cases c7 : (ji5) < (l0.length : Int)
 rotate_left
 ·rw [if_neg c7] at H
  exact absurd H (by simp)
 rw [if_pos c7] at H
 have c7b0 : decide ((ji5) < (l0.length : Int)) = true := decide_eq_true c7
 clear c7
 by_cases c8 : 0 ≤ (IntKind.u64.wrap (Int.tmod a1 32))
 rotate_left
 ·rw [if_neg c8] at H
  exact absurd H (by simp)
 rw [if_pos c8] at H
 have c8b0 := eq_true c8
 have c8b1 : decide (0 ≤ (IntKind.u64.wrap (Int.tmod a1 32))) = true := decide_eq_true c8
 clear c8
 obtain ⟨ji9, hji9⟩ : ∃ j_ : Int, (shr .u32 (rd l0 (ji5)) (IntKind.u64.wrap (Int.tmod a1 32))) = j_ := ⟨_, rfl⟩
 replace H : (some ((Int.tmod (ji9) 2) == 1)) = some r := by first | (rw [hji9] at H; exact H) | (simp only [hji9] at H ⊢; exact H)
 have hji9_ : ((rd l0 (ji5)) / 2 ^ min (IntKind.u64.wrap (Int.tmod a1 32)).toNat 32) = ji9 := hji9
 have hji9z : (IntKind.u64.wrap (Int.tmod a1 32)) ≤ 32 → ((rd l0 (ji5)) / 2 ^ (IntKind.u64.wrap (Int.tmod a1 32)).toNat) = ji9 := shr_small hji9
 obtain rfl := Option.some.inj H
 have p508 : 0 ≤ ((ji5) : Int) := Qd
 have q508 : (ji5) < (l0.length : Int) := Qd
 obtain ⟨ad508, e508, hx508_0⟩ := Kd.at_int HR0.out (ji5) p508 q508
 cases e508
 replace p508 := eq_true p508
 replace q508 := eq_true q508
 go_enter Try.func85, Try.ntmps85
 go_wp2
 go_ret
 exact ⟨by first | rfl | (simp; done) | (simp only [← hji5, ← hji9] <;> (first | rfl | simp)) | (simp [*]; done), Qa10⟩
def r1_Shr.l0 : Nat → List Int → Int → List Int → Int → Option (List Int)
 | 0, _, _, _, _ => none
 | k + 1, x0, x1, x5, x6 => if x6 < (x0.length : Int) then (if 0 ≤ x6 then (if (wrap64 (x6 + 1)) < (x0.length : Int) then (if 0 ≤ (wrap64 (x6 + 1)) then (if 0 ≤ (IntKind.u64.wrap (Int.tmod x1 32)) then (if x5.length < 35184372088832 then (r1_Shr.l0 k x0 x1 (x5 ++ [(Int.tmod (shr .u64 (IntKind.u64.wrap ((IntKind.u64.wrap (rd x0 x6)) + (IntKind.u64.wrap ((IntKind.u64.wrap (rd x0 (wrap64 (x6 + 1)))) * 4294967296)))) (IntKind.u64.wrap (Int.tmod x1 32))) 4294967296) % 4294967296]) (wrap64 (x6 + 1))) else (none)) else (none)) else (none)) else (if 0 ≤ (IntKind.u64.wrap (Int.tmod x1 32)) then (if x5.length < 35184372088832 then (r1_Shr.l0 k x0 x1 (x5 ++ [(Int.tmod (shr .u64 (IntKind.u64.wrap (rd x0 x6)) (IntKind.u64.wrap (Int.tmod x1 32))) 4294967296) % 4294967296]) (wrap64 (x6 + 1))) else (none)) else (none))) else (none)) else ((r1_Trim.f k x5).bind fun t693 => (some t693))
def r1_Shr.f (k : Nat) (l0 : List Int) (a1 : Int) : Option (List Int) := r1_Shr.l0 k l0 a1 ([] : List Int) (wrap64 (Int.tdiv a1 32))
theorem r1_Shr.calls (k : Nat) (A0 : Option Addr) (c0 : Nat) (l0 : List Int) (a1 : Int) (r : List Int) (w : World) (hr0 : Kd.C (Kd.int .u32) w A0 l0.length l0) (hc0 : l0.length ≤ c0) (h : r1_Shr.f k l0 a1 = some r) :
  Calls Try.prog 92 #[.slice A0 l0.length c0, .int .i64 a1] w fun e w' => ∃ v0_ : Value, e = .returned (v0_) ∧ Kd.R (Kd.int .u32) 47 w' w.heap.size (fun _ => True) v0_ r ∧ Below w.heap.size w w' := by
 have HR0 := Yt.mk hr0
 have HC0 := Yt.mk hc0
 clear hr0 hc0
 have HB := Yt.mk (Below.refl w.heap.size w)
 unfold r1_Shr.f at h
 have H := h
 clear h
 have H' := Yt.mk H
 clear H
 go_enter Try.func92, Try.ntmps92
 go_wp2
 go_loopg [5, 6] k (fun kq v5 v6 w' => ∃ (x5_1 : List Int) (x6_1 : Int), v6 = .int .i64 x6_1 ∧ Yt (r1_Shr.l0 kq l0 a1 x5_1 x6_1 = some r) ∧ Yt (kq ≤ k) ∧ Yt (Kd.R (Kd.int .u32) 47 w' w.heap.size (fun _ => True) v5 x5_1) ∧ Yt (Below w.heap.size w w'))
 case atStart => exact ⟨(([] : List Int)), (wrap64 (Int.tdiv a1 32)), Qa5, H', ⟨Nat.le_refl _⟩, ⟨by first | exact Kd.R_nil _ _ _ _ _ | exact Kd.N_nil _ _ _ _ _ | exact Kd.V_nil _ _ _ _ _ | exact Kd.Q_nil _ _ _ _ _ | exact Kd.S_nil _ _ _ _ _⟩, ⟨Qa0⟩⟩
 case round =>
  clear H'
  try clear p2
  obtain ⟨x5_1, x6_1, rfl, HA, HK1, HO_5, HB⟩ := hrel
  cases gk with
  | zero => exact absurd HA.out (by simp [r1_Shr.l0])
  | succ k1 =>
   have H := HA.out
   clear HA
   simp only [r1_Shr.l0] at H
   by_cases c3 : x6_1 < (l0.length : Int)
   rotate_left
   ·rw [if_neg c3] at H
    have c3b0 : decide (x6_1 < (l0.length : Int)) = false := decide_eq_false c3
    clear c3
    replace H := Option.bind_eq_some_iff.mp H
    obtain ⟨t693, A160, H⟩ := H
    replace H : (some t693) = some r := H
    have A16 := Yt.mk A160
    clear A160
    obtain rfl := Option.some.inj H
    obtain ⟨Ao17, co17, eo17⟩ := Kd.Zx HO_5.out
    subst eo17
    go_wp2_with (first | ((with_reducible refine Zr (f := 46) rfl ?_); refine Yg (some 46) rfl rfl Try.func46 Qa7 rfl #[.slice Ao17 x5_1.length co17] rfl Qa2 ?_; (with_reducible refine (r1_Trim.calls k1 _ _ x5_1 t693 _ ?side1 ?side2 A16.out).mono ?_); (case side1 => exact Qe9 (Kd.Zs HO_5.out).2.2); (case side2 => exact (Kd.Zs HO_5.out).2.1); rintro e w18 ⟨v694, rfl, ho0, hb⟩; refine ⟨_, rfl, ?_⟩; have HO695 := Yt.mk (Kd.Yb (Kd.Ya ho0 (Kd.R_lt (Qr1 HO_5.out))) (Zk (Qa0))); replace HO_5 := Yt.mk (Kd.Yf (Qr1 HO_5.out) (Kd.Zw ho0) hb); replace HB := Yt.mk (Zm (Qa0) hb); (try clear hb); (try clear ho0)))
    go_ret
    exact ⟨_, Qa4, by (with_reducible repeat (first | apply Kd.Zf | apply Kd.Ze | apply Kd.Zj)); exact Kd.Zv HO695.out (fun _ hk => trivial), Qa0⟩
   rw [if_pos c3] at H
   have c3b0 : decide (x6_1 < (l0.length : Int)) = true := decide_eq_true c3
   clear c3
   by_cases c4 : 0 ≤ x6_1
   rotate_left
   ·rw [if_neg c4] at H
    exact absurd H (by simp)
   rw [if_pos c4] at H
   have c4b0 : decide (0 ≤ x6_1) = true := decide_eq_true c4
   clear c4
   by_cases c5 : (wrap64 (x6_1 + 1)) < (l0.length : Int)
   rotate_left
   ·rw [if_neg c5] at H
    have c5b0 : decide ((wrap64 (x6_1 + 1)) < (l0.length : Int)) = false := decide_eq_false c5
    clear c5
    by_cases c12 : 0 ≤ (IntKind.u64.wrap (Int.tmod a1 32))
    rotate_left
    ·rw [if_neg c12] at H
     exact absurd H (by simp)
    rw [if_pos c12] at H
    have c12b0 := eq_true c12
    have c12b1 : decide (0 ≤ (IntKind.u64.wrap (Int.tmod a1 32))) = true := decide_eq_true c12
    clear c12
    obtain ⟨ji13, hji13⟩ : ∃ j_ : Int, (shr .u64 (IntKind.u64.wrap (rd l0 x6_1)) (IntKind.u64.wrap (Int.tmod a1 32))) = j_ := ⟨_, rfl⟩
    replace H : (if x5_1.length < 35184372088832 then (r1_Shr.l0 k1 l0 a1 (x5_1 ++ [(Int.tmod (ji13) 4294967296) % 4294967296]) (wrap64 (x6_1 + 1))) else (none)) = some r := by first | (rw [hji13] at H; exact H) | (simp only [hji13] at H ⊢; exact H)
    have hji13_ : ((IntKind.u64.wrap (rd l0 x6_1)) / 2 ^ min (IntKind.u64.wrap (Int.tmod a1 32)).toNat 64) = ji13 := hji13
    have hji13z : (IntKind.u64.wrap (Int.tmod a1 32)) ≤ 64 → ((IntKind.u64.wrap (rd l0 x6_1)) / 2 ^ (IntKind.u64.wrap (Int.tmod a1 32)).toNat) = ji13 := shr_small hji13
    by_cases c14 : x5_1.length < 35184372088832
    rotate_left
    ·rw [if_neg c14] at H
     exact absurd H (by simp)
    rw [if_pos c14] at H
    have LMc14 := Yt.mk c14
    clear c14
    obtain ⟨y690, hy690⟩ : ∃ y_ : List Int, y_ = (x5_1 ++ [(Int.tmod (ji13) 4294967296) % 4294967296]) := ⟨_, rfl⟩
    replace H : (r1_Shr.l0 k1 l0 a1 y690 (wrap64 (x6_1 + 1))) = some r := Qh hy690 H
    have Ny690 := Yt.mk hy690
    clear hy690
    have H' := Yt.mk H
    clear H
    have p685 : 0 ≤ (x6_1 : Int) := Qd
    have q685 : x6_1 < (l0.length : Int) := Qd
    obtain ⟨ad685, e685, hx685_0⟩ := Kd.at_int HR0.out x6_1 p685 q685
    cases e685
    replace hx685_0 := (HB.out.cell (World.block_lt_of_cell? w _ hx685_0)).trans hx685_0
    replace p685 := eq_true p685
    replace q685 := eq_true q685
    go_wp2_with (first | ((with_reducible refine gate_builtin (b := .append) (xs := #[.tmp 35, .tmp 43]) rfl ?_); at_builtin; refine Kd.R_append (Kd.int .u32) (w0 := w) w.heap.size rfl (.tmp 35) (.tmp 43) 22 47 (.int .u32 0) 4 rfl Try.underlying22 info47 rfl (by decide) (by omega) u5 x5_1 ((Int.tmod (ji13) 4294967296) % 4294967296) [.int .u32 ((Int.tmod (ji13) 4294967296) % 4294967296)] (fun _ => True) (fun _ => False) rfl rfl ?aP (fun _ hk => hk.elim) ?aF ?aO ?aB ?aS ?aL ?_; (case aP => exact rfl); (case aB => exact (Qa0)); (case aF => exact (fun _ _ => trivial)); (case aO => exact (Qr1 HO_5.out)); (case aS => exact (Zk (Qa0))); (case aL => have := LMc14.out; omega); intro v691 w15 ho hb hg hat; rw [← Ny690.out] at ho; replace HB := Yt.mk (hb); have HO692 := Yt.mk (ho); clear HO_5; clear ho hb hg hat))
    go_roundg k1
    case measure => have := HK1.out; omega
    case rel => exact ⟨(y690), (wrap64 (x6_1 + 1)), Qa5, H', ⟨by have := HK1.out; omega⟩, ⟨Qr1 HO692.out⟩, ⟨Qa0⟩⟩
   rw [if_pos c5] at H
   have c5b0 : decide ((wrap64 (x6_1 + 1)) < (l0.length : Int)) = true := decide_eq_true c5
   clear c5
   obtain ⟨ji6, hji6⟩ : ∃ j_ : Int, (wrap64 (x6_1 + 1)) = j_ := ⟨_, rfl⟩
   replace H : (if 0 ≤ (ji6) then (if 0 ≤ (IntKind.u64.wrap (Int.tmod a1 32)) then (if x5_1.length < 35184372088832 then (r1_Shr.l0 k1 l0 a1 (x5_1 ++ [(Int.tmod (shr .u64 (IntKind.u64.wrap ((IntKind.u64.wrap (rd l0 x6_1)) + (IntKind.u64.wrap ((IntKind.u64.wrap (rd l0 (ji6))) * 4294967296)))) (IntKind.u64.wrap (Int.tmod a1 32))) 4294967296) % 4294967296]) ji6) else (none)) else (none)) else (none)) = some r := by first | (rw [hji6] at H; exact H) | (simp only [hji6] at H ⊢; exact H)
   (try rw [hji6] at c5b0)
   have hji6w : (IntKind.i64.wrap (x6_1 + 1)) = ji6 := (Yi _).trans hji6
   by_cases c7 : 0 ≤ (ji6)
   rotate_left
   ·rw [if_neg c7] at H
    exact absurd H (by simp)
   rw [if_pos c7] at H
   have c7b0 : decide (0 ≤ (ji6)) = true := decide_eq_true c7
   clear c7
   by_cases c8 : 0 ≤ (IntKind.u64.wrap (Int.tmod a1 32))
   rotate_left
   ·rw [if_neg c8] at H
    exact absurd H (by simp)
   rw [if_pos c8] at H
   have c8b0 := eq_true c8
   have c8b1 : decide (0 ≤ (IntKind.u64.wrap (Int.tmod a1 32))) = true := decide_eq_true c8
   clear c8
   obtain ⟨ji9, hji9⟩ : ∃ j_ : Int, (shr .u64 (IntKind.u64.wrap ((IntKind.u64.wrap (rd l0 x6_1)) + (IntKind.u64.wrap ((IntKind.u64.wrap (rd l0 (ji6))) * 4294967296)))) (IntKind.u64.wrap (Int.tmod a1 32))) = j_ := ⟨_, rfl⟩
   replace H : (if x5_1.length < 35184372088832 then (r1_Shr.l0 k1 l0 a1 (x5_1 ++ [(Int.tmod (ji9) 4294967296) % 4294967296]) ji6) else (none)) = some r := by first | (rw [hji9] at H; exact H) | (simp only [hji9] at H ⊢; exact H)
   have hji9_ : ((IntKind.u64.wrap ((IntKind.u64.wrap (rd l0 x6_1)) + (IntKind.u64.wrap ((IntKind.u64.wrap (rd l0 (ji6))) * 4294967296)))) / 2 ^ min (IntKind.u64.wrap (Int.tmod a1 32)).toNat 64) = ji9 := hji9
   have hji9z : (IntKind.u64.wrap (Int.tmod a1 32)) ≤ 64 → ((IntKind.u64.wrap ((IntKind.u64.wrap (rd l0 x6_1)) + (IntKind.u64.wrap ((IntKind.u64.wrap (rd l0 (ji6))) * 4294967296)))) / 2 ^ (IntKind.u64.wrap (Int.tmod a1 32)).toNat) = ji9 := shr_small hji9
   by_cases c10 : x5_1.length < 35184372088832
   rotate_left
   ·rw [if_neg c10] at H
    exact absurd H (by simp)
   rw [if_pos c10] at H
   have LMc10 := Yt.mk c10
   clear c10
   obtain ⟨y687, hy687⟩ : ∃ y_ : List Int, y_ = (x5_1 ++ [(Int.tmod (ji9) 4294967296) % 4294967296]) := ⟨_, rfl⟩
   replace H : (r1_Shr.l0 k1 l0 a1 y687 ji6) = some r := Qh hy687 H
   have Ny687 := Yt.mk hy687
   clear hy687
   have H' := Yt.mk H
   clear H
   have p685 : 0 ≤ (x6_1 : Int) := Qd
   have q685 : x6_1 < (l0.length : Int) := Qd
   obtain ⟨ad685, e685, hx685_0⟩ := Kd.at_int HR0.out x6_1 p685 q685
   cases e685
   replace hx685_0 := (HB.out.cell (World.block_lt_of_cell? w _ hx685_0)).trans hx685_0
   replace p685 := eq_true p685
   replace q685 := eq_true q685
   have p686 : 0 ≤ ((ji6) : Int) := Qd
   have q686 : (ji6) < (l0.length : Int) := Qd
   obtain ⟨ad686, e686, hx686_0⟩ := Kd.at_int HR0.out (ji6) p686 q686
   obtain rfl : ad685 = ad686 := (by injection e686)
   replace hx686_0 := (HB.out.cell (World.block_lt_of_cell? w _ hx686_0)).trans hx686_0
   replace p686 := eq_true p686
   replace q686 := eq_true q686
   go_wp2_with (first | ((with_reducible refine gate_builtin (b := .append) (xs := #[.tmp 35, .tmp 43]) rfl ?_); at_builtin; refine Kd.R_append (Kd.int .u32) (w0 := w) w.heap.size rfl (.tmp 35) (.tmp 43) 22 47 (.int .u32 0) 4 rfl Try.underlying22 info47 rfl (by decide) (by omega) u5 x5_1 ((Int.tmod (ji9) 4294967296) % 4294967296) [.int .u32 ((Int.tmod (ji9) 4294967296) % 4294967296)] (fun _ => True) (fun _ => False) rfl rfl ?aP (fun _ hk => hk.elim) ?aF ?aO ?aB ?aS ?aL ?_; (case aP => exact rfl); (case aB => exact (Qa0)); (case aF => exact (fun _ _ => trivial)); (case aO => exact (Qr1 HO_5.out)); (case aS => exact (Zk (Qa0))); (case aL => have := LMc10.out; omega); intro v688 w11 ho hb hg hat; rw [← Ny687.out] at ho; replace HB := Yt.mk (hb); have HO689 := Yt.mk (ho); clear HO_5; clear ho hb hg hat))
   go_roundg k1
   case measure => have := HK1.out; omega
   case rel => exact ⟨(y687), (ji6), (by first | rfl | (simp; done) | (simp only [← hji6] <;> (first | rfl | simp)) | (simp [*]; done)), H', ⟨by have := HK1.out; omega⟩, ⟨Qr1 HO689.out⟩, ⟨Qa0⟩⟩
mutual
def r1_Common.j1 : Nat → List Int → List Int → Int → Option (List Int)
 | 0, _, _, _ => none
 | k + 1, x5, x6, x7 => (r1_Shr.f k x5 x7).bind fun t704 => ((r1_Shr.f k x6 x7).bind fun t707 => (r1_Common.l1 k t704 t707 x7))
def r1_Common.l1 : Nat → List Int → List Int → Int → Option (List Int)
 | 0, _, _, _ => none
 | k + 1, x5, x6, x7 => if (x5.length : Int) > 0 then (r1_Common.j3 k x5 x6 x7 (decide (0 < x6.length))) else (r1_Common.j3 k x5 x6 x7 false)
def r1_Common.j3 : Nat → List Int → List Int → Int → Bool → Option (List Int)
 | 0, _, _, _, _ => none
 | k + 1, x5, x6, x7, x45 => if x45 = true then ((r1_Bit.f x5 0).bind fun t716 => (if t716 = true then ((r1_Bit.f x6 0).bind fun t717 => (if t717 = true then ((r1_Cmp.f k x5 x6).bind fun t718 => (if t718 ≥ 0 then ((r1_Minus.f k x5 x6).bind fun t719 => (r1_Common.l1 k t719 x6 x7)) else ((r1_Minus.f k x6 x5).bind fun t722 => (r1_Common.l1 k x5 t722 x7)))) else ((r1_Shr.f k x6 1).bind fun t725 => (r1_Common.l1 k x5 t725 x7)))) else ((r1_Shr.f k x5 1).bind fun t728 => (r1_Common.l1 k t728 x6 x7)))) else ((r1_Plus.f k x5 x6).bind fun t710 => ((r1_Shl.f k t710 x7).bind fun t713 => (some t713)))
def r1_Common.l0 : Nat → List Int → List Int → Int → Option (List Int)
 | 0, _, _, _ => none
 | k + 1, x5, x6, x7 => (r1_Bit.f x5 x7).bind fun t702 => (if t702 = true then (r1_Common.j1 k x5 x6 x7) else ((r1_Bit.f x6 x7).bind fun t703 => (if t703 = true then (r1_Common.j1 k x5 x6 x7) else (r1_Common.l0 k x5 x6 (wrap64 (x7 + 1))))))
end
def r1_Common.f (k : Nat) (l0 : List Int) (l1 : List Int) : Option (List Int) := (r1_Trim.f k l0).bind fun t696 => ((r1_Trim.f k l1).bind fun t699 => (if (t696.length : Int) = 0 then (some t699) else (if (t699.length : Int) = 0 then (some t696) else (r1_Common.l0 k t696 t699 0))))
theorem r1_Common.calls (k : Nat) (A0 : Option Addr) (c0 : Nat) (l0 : List Int) (A1 : Option Addr) (c1 : Nat) (l1 : List Int) (r : List Int) (w : World) (hr0 : Kd.C (Kd.int .u32) w A0 l0.length l0) (hc0 : l0.length ≤ c0) (hr1 : Kd.C (Kd.int .u32) w A1 l1.length l1) (hc1 : l1.length ≤ c1) (h : r1_Common.f k l0 l1 = some r) :
  Calls Try.prog 41 #[.slice A0 l0.length c0, .slice A1 l1.length c1] w fun e w' => ∃ v0_ : Value, e = .returned (v0_) ∧ Kd.R (Kd.int .u32) 47 w' w.heap.size (fun _ => True) v0_ r ∧ Below w.heap.size w w' := by
 have HR0 := Yt.mk hr0
 have HC0 := Yt.mk hc0
 clear hr0 hc0
 have HR1 := Yt.mk hr1
 have HC1 := Yt.mk hc1
 clear hr1 hc1
 have HB := Yt.mk (Below.refl w.heap.size w)
 unfold r1_Common.f at h
 have H := h
 clear h
 replace H := Option.bind_eq_some_iff.mp H
 obtain ⟨t696, A30, H⟩ := H
 try dsimp only at H
 have A3 := Yt.mk A30
 clear A30
 replace H := Option.bind_eq_some_iff.mp H
 obtain ⟨t699, A40, H⟩ := H
 try dsimp only at H
 have A4 := Yt.mk A40
 clear A40
 by_cases c5 : (t696.length : Int) = 0
 ·rw [if_pos c5] at H
  have c5b0 : ((t696.length : Int) == 0) = true := beq_iff_eq.mpr c5
  have c5b1 : ((t696.length : Int) != 0) = false := bne_eq_false_iff_eq.mpr c5
  clear c5
  obtain rfl := Option.some.inj H
  go_enter Try.func41, Try.ntmps41
  go_wp2_with (first | ((with_reducible refine Zr (f := 46) rfl ?_); refine Yg (some 9) rfl rfl Try.func46 Qa7 rfl #[.slice A0 l0.length c0] rfl Qa2 ?_; (with_reducible refine (r1_Trim.calls k _ _ l0 t696 _ ?side1 ?side2 A3.out).mono ?_); (case side1 => exact Qe9 HR0.out); (case side2 => exact HC0.out); rintro e w6 ⟨v697, rfl, ho0, hb⟩; refine ⟨_, rfl, ?_⟩; have HO698 := Yt.mk (Kd.Yb ho0 (Zk (Qa0))); replace HB := Yt.mk (Zm (Qa0) hb); (try clear hb); (try clear ho0)) | ((with_reducible refine Zr (f := 46) rfl ?_); refine Yg (some 11) rfl rfl Try.func46 Qa7 rfl #[.slice A1 l1.length c1] rfl Qa2 ?_; (with_reducible refine (r1_Trim.calls k _ _ l1 t699 _ ?side1 ?side2 A4.out).mono ?_); (case side1 => exact Qe9 (Kd.Ys HR1.out HB.out)); (case side2 => exact HC1.out); rintro e w7 ⟨v700, rfl, ho0, hb⟩; refine ⟨_, rfl, ?_⟩; have HO701 := Yt.mk (Kd.Yb (Kd.Ya ho0 (Kd.R_lt (Qr1 HO698.out))) (Zk (Qa0))); replace HO698 := Yt.mk (Kd.Yf (Qr1 HO698.out) (Kd.Zw ho0) hb); replace HB := Yt.mk (Zm (Qa0) hb); (try clear hb); (try clear ho0); obtain ⟨Ao8, co8, eo8⟩ := Kd.Zx HO698.out; subst eo8))
  go_ret
  exact ⟨_, Qa4, by (with_reducible repeat (first | apply Kd.Zf | apply Kd.Ze | apply Kd.Zj)); exact Kd.Zv HO701.out (fun _ hk => trivial), Qa0⟩
 rw [if_neg c5] at H
 have c5b0 : ((t696.length : Int) == 0) = false := beq_eq_false_iff_ne.mpr c5
 have c5b1 : ((t696.length : Int) != 0) = true := bne_iff_ne.mpr c5
 have c5b2 : ¬ (t696 = []) := fun h_ => c5 (by rw [h_]; rfl)
 by_cases c9 : (t699.length : Int) = 0
 ·rw [if_pos c9] at H
  have c9b0 : ((t699.length : Int) == 0) = true := beq_iff_eq.mpr c9
  have c9b1 : ((t699.length : Int) != 0) = false := bne_eq_false_iff_eq.mpr c9
  clear c9
  obtain rfl := Option.some.inj H
  go_enter Try.func41, Try.ntmps41
  go_wp2_with (first | ((with_reducible refine Zr (f := 46) rfl ?_); refine Yg (some 9) rfl rfl Try.func46 Qa7 rfl #[.slice A0 l0.length c0] rfl Qa2 ?_; (with_reducible refine (r1_Trim.calls k _ _ l0 t696 _ ?side1 ?side2 A3.out).mono ?_); (case side1 => exact Qe9 HR0.out); (case side2 => exact HC0.out); rintro e w10 ⟨v697, rfl, ho0, hb⟩; refine ⟨_, rfl, ?_⟩; have HO698 := Yt.mk (Kd.Yb ho0 (Zk (Qa0))); replace HB := Yt.mk (Zm (Qa0) hb); (try clear hb); (try clear ho0)) | ((with_reducible refine Zr (f := 46) rfl ?_); refine Yg (some 11) rfl rfl Try.func46 Qa7 rfl #[.slice A1 l1.length c1] rfl Qa2 ?_; (with_reducible refine (r1_Trim.calls k _ _ l1 t699 _ ?side1 ?side2 A4.out).mono ?_); (case side1 => exact Qe9 (Kd.Ys HR1.out HB.out)); (case side2 => exact HC1.out); rintro e w11 ⟨v700, rfl, ho0, hb⟩; refine ⟨_, rfl, ?_⟩; have HO701 := Yt.mk (Kd.Yb (Kd.Ya ho0 (Kd.R_lt (Qr1 HO698.out))) (Zk (Qa0))); replace HO698 := Yt.mk (Kd.Yf (Qr1 HO698.out) (Kd.Zw ho0) hb); replace HB := Yt.mk (Zm (Qa0) hb); (try clear hb); (try clear ho0); obtain ⟨Ao12, co12, eo12⟩ := Kd.Zx HO698.out; subst eo12; obtain ⟨Ao13, co13, eo13⟩ := Kd.Zx HO701.out; subst eo13))
  go_ret
  exact ⟨_, Qa4, by (with_reducible repeat (first | apply Kd.Zf | apply Kd.Ze | apply Kd.Zj)); exact Kd.Zv HO698.out (fun _ hk => trivial), Qa0⟩
 rw [if_neg c9] at H
 have c9b0 : ((t699.length : Int) == 0) = false := beq_eq_false_iff_ne.mpr c9
 have c9b1 : ((t699.length : Int) != 0) = true := bne_iff_ne.mpr c9
 have c9b2 : ¬ (t699 = []) := fun h_ => c9 (by rw [h_]; rfl)
 have HC14 := Yt.mk H
 clear H
 go_enter Try.func41, Try.ntmps41
 go_upto_block 0 with (first | ((with_reducible refine Zr (f := 46) rfl ?_); refine Yg (some 9) rfl rfl Try.func46 Qa7 rfl #[.slice A0 l0.length c0] rfl Qa2 ?_; (with_reducible refine (r1_Trim.calls k _ _ l0 t696 _ ?side1 ?side2 A3.out).mono ?_); (case side1 => exact Qe9 HR0.out); (case side2 => exact HC0.out); rintro e w15 ⟨v697, rfl, ho0, hb⟩; refine ⟨_, rfl, ?_⟩; have HO698 := Yt.mk (Kd.Yb ho0 (Zk (Qa0))); replace HB := Yt.mk (Zm (Qa0) hb); (try clear hb); (try clear ho0)) | ((with_reducible refine Zr (f := 46) rfl ?_); refine Yg (some 11) rfl rfl Try.func46 Qa7 rfl #[.slice A1 l1.length c1] rfl Qa2 ?_; (with_reducible refine (r1_Trim.calls k _ _ l1 t699 _ ?side1 ?side2 A4.out).mono ?_); (case side1 => exact Qe9 (Kd.Ys HR1.out HB.out)); (case side2 => exact HC1.out); rintro e w16 ⟨v700, rfl, ho0, hb⟩; refine ⟨_, rfl, ?_⟩; have HO701 := Yt.mk (Kd.Yb (Kd.Ya ho0 (Kd.R_lt (Qr1 HO698.out))) (Zk (Qa0))); replace HO698 := Yt.mk (Kd.Yf (Qr1 HO698.out) (Kd.Zw ho0) hb); replace HB := Yt.mk (Zm (Qa0) hb); (try clear hb); (try clear ho0); obtain ⟨Ao17, co17, eo17⟩ := Kd.Zx HO698.out; subst eo17; obtain ⟨Ao18, co18, eo18⟩ := Kd.Zx HO701.out; subst eo18))
 (try simp only [Act.put, List.setIfInBounds_toArray, List.set_cons_zero, List.set_cons_succ])
 go_cut [7] (fun v7 wc => ∃ (kq : Nat) (x7_13 : Int), v7 = .int .i64 x7_13 ∧ Yt (r1_Common.j1 kq t696 t699 x7_13 = some r) ∧ Yt (kq ≤ k) ∧ Yt (Kd.R (Kd.int .u32) 47 wc w.heap.size (fun k_ => some k_ ≠ ((.slice Ao18 t699.length co18) : Value).ownBlock) (.slice Ao17 t696.length co17) t696) ∧ Yt (Kd.R (Kd.int .u32) 47 wc w.heap.size (fun k_ => some k_ ≠ ((.slice Ao17 t696.length co17) : Value).ownBlock) (.slice Ao18 t699.length co18) t699) ∧ Yt (Below w.heap.size w wc))
 case first =>
  have H := HC14.out
  clear HC14
  have H' := Yt.mk H
  clear H
  go_wp2
  go_loopg [7] k (fun kq v7 w' => ∃ (x7_1 : Int), v7 = .int .i64 x7_1 ∧ Yt (r1_Common.l0 kq t696 t699 x7_1 = some r) ∧ Yt (kq ≤ k) ∧ Yt (Kd.R (Kd.int .u32) 47 w' w.heap.size (fun k_ => some k_ ≠ ((.slice Ao18 t699.length co18) : Value).ownBlock) (.slice Ao17 t696.length co17) t696) ∧ Yt (Kd.R (Kd.int .u32) 47 w' w.heap.size (fun k_ => some k_ ≠ ((.slice Ao17 t696.length co17) : Value).ownBlock) (.slice Ao18 t699.length co18) t699) ∧ Yt (Below w.heap.size w w'))
  case atStart => exact ⟨(0), Qa5, H', ⟨Nat.le_refl _⟩, ⟨by (with_reducible repeat (first | apply Kd.Zf | apply Kd.Ze | apply Kd.Zj)); exact Kd.Zv HO698.out (fun _ hk => hk.2)⟩, ⟨by (with_reducible repeat (first | apply Kd.Zf | apply Kd.Ze | apply Kd.Zj)); exact Kd.Zv HO701.out (fun _ hk => hk.2)⟩, ⟨Qa0⟩⟩
  case round =>
   clear H'
   try clear c1; try clear p2; try clear c4; try clear c5; try clear c5b0; try clear c5b1; try clear c5b2; try clear c9; try clear c9b0; try clear c9b1; try clear c9b2
   obtain ⟨x7_1, rfl, HA, HK1, HO_5, HO_6, HB⟩ := hrel
   cases gk with
   | zero => exact absurd HA.out (by simp [r1_Common.l0])
   | succ k1 =>
    have H := HA.out
    clear HA
    simp only [r1_Common.l0] at H
    replace H := Option.bind_eq_some_iff.mp H
    obtain ⟨t702, A190, H⟩ := H
    try dsimp only at H
    have A19 := Yt.mk A190
    clear A190
    by_cases c20 : t702 = true
    ·subst c20
     rw [if_pos rfl] at H
     have H' := Yt.mk H
     clear H
     go_wp2_with (first | ((with_reducible refine Zr (f := 85) rfl ?_); refine Yg (some 22) rfl rfl Try.func85 Qa7 rfl #[.slice Ao17 t696.length co17, .int .i64 x7_1] rfl Qa2 ?_; (with_reducible refine (r1_Bit.calls _ _ t696 x7_1 true _ ?side1 ?side2 A19.out).mono ?_); (case side1 => exact Qe9 (Kd.Zs HO_5.out).2.2); (case side2 => exact (Kd.Zs HO_5.out).2.1); rintro e w' ⟨rfl, ⟨nd, rfl⟩⟩; refine ⟨_, rfl, ?_⟩))
     go_meet
     case rel => exact ⟨_, (x7_1), Qa5, H', ⟨by have := HK1.out; first | omega | exact Nat.le_refl _⟩, ⟨Qr1 HO_5.out⟩, ⟨Qr1 HO_6.out⟩, ⟨Qa0⟩⟩
    replace c20 := Bool.eq_false_iff.mpr c20
    subst c20
    rw [if_neg (show ¬ (false = true) by decide)] at H
    replace H := Option.bind_eq_some_iff.mp H
    obtain ⟨t703, A210, H⟩ := H
    try dsimp only at H
    have A21 := Yt.mk A210
    clear A210
    by_cases c22 : t703 = true
    ·subst c22
     rw [if_pos rfl] at H
     have H' := Yt.mk H
     clear H
     go_wp2_with (first | ((with_reducible refine Zr (f := 85) rfl ?_); refine Yg (some 22) rfl rfl Try.func85 Qa7 rfl #[.slice Ao17 t696.length co17, .int .i64 x7_1] rfl Qa2 ?_; (with_reducible refine (r1_Bit.calls _ _ t696 x7_1 false _ ?side1 ?side2 A19.out).mono ?_); (case side1 => exact Qe9 (Kd.Zs HO_5.out).2.2); (case side2 => exact (Kd.Zs HO_5.out).2.1); rintro e w' ⟨rfl, ⟨nd, rfl⟩⟩; refine ⟨_, rfl, ?_⟩) | (go_at_call 85; (with_reducible refine (r1_Bit.calls _ _ t699 x7_1 true _ ?side1 ?side2 A21.out).mono ?_); (case side1 => exact Qe9 (Kd.Zs HO_6.out).2.2); (case side2 => exact (Kd.Zs HO_6.out).2.1); rintro e w' ⟨rfl, ⟨nd, rfl⟩⟩))
     go_meet
     case rel => exact ⟨_, (x7_1), Qa5, H', ⟨by have := HK1.out; first | omega | exact Nat.le_refl _⟩, ⟨Qr1 HO_5.out⟩, ⟨Qr1 HO_6.out⟩, ⟨Qa0⟩⟩
    replace c22 := Bool.eq_false_iff.mpr c22
    subst c22
    rw [if_neg (show ¬ (false = true) by decide)] at H
    have H' := Yt.mk H
    clear H
    go_wp2_with (first | ((with_reducible refine Zr (f := 85) rfl ?_); refine Yg (some 22) rfl rfl Try.func85 Qa7 rfl #[.slice Ao17 t696.length co17, .int .i64 x7_1] rfl Qa2 ?_; (with_reducible refine (r1_Bit.calls _ _ t696 x7_1 false _ ?side1 ?side2 A19.out).mono ?_); (case side1 => exact Qe9 (Kd.Zs HO_5.out).2.2); (case side2 => exact (Kd.Zs HO_5.out).2.1); rintro e w' ⟨rfl, ⟨nd, rfl⟩⟩; refine ⟨_, rfl, ?_⟩) | (go_at_call 85; (with_reducible refine (r1_Bit.calls _ _ t699 x7_1 false _ ?side1 ?side2 A21.out).mono ?_); (case side1 => exact Qe9 (Kd.Zs HO_6.out).2.2); (case side2 => exact (Kd.Zs HO_6.out).2.1); rintro e w' ⟨rfl, ⟨nd, rfl⟩⟩))
    go_roundg k1
    case measure => have := HK1.out; omega
    case rel => exact ⟨(wrap64 (x7_1 + 1)), Qa5, H', ⟨by have := HK1.out; omega⟩, ⟨Qr1 HO_5.out⟩, ⟨Qr1 HO_6.out⟩, ⟨Qa0⟩⟩
 case rest =>
  clear HC14
  try clear c1; try clear c2; try clear p2; try clear c4; try clear c5; try clear c5b0; try clear c5b1; try clear c5b2; try clear p6; try clear c8; try clear c9; try clear c9b0; try clear c9b1; try clear c9b2; try clear c20; try clear c22; try clear p2
  obtain ⟨kq, x7_13, rfl, HA, HJ13, HO_5, HO_6, HB⟩ := hcut
  cases kq with
  | zero => exact absurd HA.out (by simp [r1_Common.j1])
  | succ kj13 =>
   have H := HA.out
   clear HA
   simp only [r1_Common.j1] at H
   replace H := Option.bind_eq_some_iff.mp H
   obtain ⟨t704, A230, H⟩ := H
   try dsimp only at H
   have A23 := Yt.mk A230
   clear A230
   replace H := Option.bind_eq_some_iff.mp H
   obtain ⟨t707, A240, H⟩ := H
   replace H : (r1_Common.l1 kj13 t704 t707 x7_13) = some r := H
   have A24 := Yt.mk A240
   clear A240
   have H' := Yt.mk H
   clear H
   go_wp2_with (first | ((with_reducible refine Zr (f := 92) rfl ?_); refine Yg (some 34) rfl rfl Try.func92 Qa7 rfl #[.slice Ao17 t696.length co17, .int .i64 x7_13] rfl Qa2 ?_; (with_reducible refine (r1_Shr.calls kj13 _ _ t696 x7_13 t704 _ ?side1 ?side2 A23.out).mono ?_); (case side1 => exact Qe9 (Kd.Zs HO_5.out).2.2); (case side2 => exact (Kd.Zs HO_5.out).2.1); rintro e w25 ⟨v705, rfl, ho0, hb⟩; refine ⟨_, rfl, ?_⟩; have HO706 := Yt.mk (Kd.Yb (Kd.Ya (Kd.Ya ho0 (Kd.R_lt (Qr1 HO_5.out))) (Kd.R_lt (Qr1 HO_6.out))) (Zk (Qa0))); replace HO_5 := Yt.mk (Kd.Yf (Qr1 HO_5.out) (Kd.Zw ho0) hb); replace HO_6 := Yt.mk (Kd.Yf (Qr1 HO_6.out) (Kd.Zw ho0) hb); replace HB := Yt.mk (Zm (Qa0) hb); (try clear hb); (try clear ho0)) | ((with_reducible refine Zr (f := 92) rfl ?_); refine Yg (some 37) rfl rfl Try.func92 Qa7 rfl #[.slice Ao18 t699.length co18, .int .i64 x7_13] rfl Qa2 ?_; (with_reducible refine (r1_Shr.calls kj13 _ _ t699 x7_13 t707 _ ?side1 ?side2 A24.out).mono ?_); (case side1 => exact Qe9 (Kd.Zs HO_6.out).2.2); (case side2 => exact (Kd.Zs HO_6.out).2.1); rintro e w26 ⟨v708, rfl, ho0, hb⟩; refine ⟨_, rfl, ?_⟩; have HO709 := Yt.mk (Kd.Yb (Kd.Ya (Kd.Ya (Kd.Ya ho0 (Kd.R_lt (Qr1 HO_5.out))) (Kd.R_lt (Qr1 HO_6.out))) (Kd.R_lt (Qr1 HO706.out))) (Zk (Qa0))); replace HO_5 := Yt.mk (Kd.Yf (Qr1 HO_5.out) (Kd.Zw ho0) hb); replace HO_6 := Yt.mk (Kd.Yf (Qr1 HO_6.out) (Kd.Zw ho0) hb); replace HO706 := Yt.mk (Kd.Yf (Qr1 HO706.out) (Kd.Zw ho0) hb); replace HB := Yt.mk (Zm (Qa0) hb); (try clear hb); (try clear ho0)))
   go_loopg [5, 6] kj13 (fun kq v5 v6 w' => ∃ (x5_2 : List Int) (x6_2 : List Int), Yt (r1_Common.l1 kq x5_2 x6_2 x7_13 = some r) ∧ Yt (kq ≤ kj13) ∧ Yt (Kd.R (Kd.int .u32) 47 w' w.heap.size (fun k_ => some k_ ≠ (v6 : Value).ownBlock) v5 x5_2) ∧ Yt (Kd.R (Kd.int .u32) 47 w' w.heap.size (fun k_ => some k_ ≠ (v5 : Value).ownBlock) v6 x6_2) ∧ Yt (Below w.heap.size w w'))
   case atStart => exact ⟨(t704), (t707), H', ⟨Nat.le_refl _⟩, ⟨by (with_reducible repeat (first | apply Kd.Zf | apply Kd.Ze | apply Kd.Zj)); exact Kd.Zv HO706.out (fun _ hk => hk.2)⟩, ⟨by (with_reducible repeat (first | apply Kd.Zf | apply Kd.Ze | apply Kd.Zj)); exact Kd.Zv HO709.out (fun _ hk => hk.2)⟩, ⟨Qa0⟩⟩
   case round =>
    clear H'
    try clear c1; try clear c2; try clear p2; try clear c4; try clear c5; try clear c5b0; try clear c5b1; try clear c5b2; try clear p6; try clear c8; try clear c9; try clear c9b0; try clear c9b1; try clear c9b2; try clear c20; try clear c22; try clear p2; try clear p6
    obtain ⟨x5_2, x6_2, HA, HK2, HO_5, HO_6, HB⟩ := hrel
    cases gk with
    | zero => exact absurd HA.out (by simp [r1_Common.l1])
    | succ k2 =>
     have H := HA.out
     clear HA
     simp only [r1_Common.l1] at H
     have HC27 := Yt.mk H
     clear H
     go_upto_region 10 with (fail)
     go_cut [45] (fun v45 wc => ∃ (kq : Nat) (x45_26 : Bool), v45 = .bool x45_26 ∧ Yt (r1_Common.j3 kq x5_2 x6_2 x7_13 x45_26 = some r) ∧ Yt (kq ≤ k2) ∧ Yt (Kd.R (Kd.int .u32) 47 wc w.heap.size (fun k_ => some k_ ≠ (u6 : Value).ownBlock) u5 x5_2) ∧ Yt (Kd.R (Kd.int .u32) 47 wc w.heap.size (fun k_ => some k_ ≠ (u5 : Value).ownBlock) u6 x6_2) ∧ Yt (Below w.heap.size w wc))
     case first =>
      have H := HC27.out
      clear HC27
      by_cases c28 : (x5_2.length : Int) > 0
      rotate_left
      ·rw [if_neg c28] at H
       have c28b0 : decide (0 < (x5_2.length : Int)) = false := decide_eq_false c28
       have c28b1 : decide (0 < x5_2.length) = false := decide_eq_false (by omega)
       clear c28
       (first | rw [c28b0] | rw [c28b1] | (simp only [Yi, Yj]; rw [c28b0]) | skip)
       have H' := Yt.mk H
       clear H
       obtain ⟨Ao31, co31, eo31⟩ := Kd.Zx HO_5.out
       subst eo31
       go_wp2
       go_meet
       case rel => exact ⟨_, (false), Qa5, H', ⟨by have := HJ13.out; have := HK2.out; first | omega | exact Nat.le_refl _⟩, ⟨Qr1 HO_5.out⟩, ⟨Qr1 HO_6.out⟩, ⟨Qa0⟩⟩
      rw [if_pos c28] at H
      have c28b0 : decide (0 < (x5_2.length : Int)) = true := decide_eq_true c28
      have c28b1 : decide (0 < x5_2.length) = true := decide_eq_true (by omega)
      clear c28
      (first | rw [c28b0] | rw [c28b1] | (simp only [Yi, Yj]; rw [c28b0]) | skip)
      have H' := Yt.mk H
      clear H
      obtain ⟨Ao29, co29, eo29⟩ := Kd.Zx HO_5.out
      subst eo29
      obtain ⟨Ao30, co30, eo30⟩ := Kd.Zx HO_6.out
      subst eo30
      go_wp2
      go_meet
      case rel => exact ⟨_, (decide (0 < x6_2.length)), Qa5, H', ⟨by have := HJ13.out; have := HK2.out; first | omega | exact Nat.le_refl _⟩, ⟨Qr1 HO_5.out⟩, ⟨Qr1 HO_6.out⟩, ⟨Qa0⟩⟩
     case rest =>
      clear HC27
      try clear c1; try clear c2; try clear p2; try clear c4; try clear c5; try clear c5b0; try clear c5b1; try clear c5b2; try clear p6; try clear c8; try clear c9; try clear c9b0; try clear c9b1; try clear c9b2; try clear c20; try clear c22; try clear c28; try clear c28b0; try clear c28b1; try clear p2; try clear p6
      obtain ⟨kq, x45_26, rfl, HA, HJ26, HO_5, HO_6, HB⟩ := hcut
      cases kq with
      | zero => exact absurd HA.out (by simp [r1_Common.j3])
      | succ kj26 =>
       have H := HA.out
       clear HA
       simp only [r1_Common.j3] at H
       by_cases c32 : x45_26 = true
       rotate_left
       ·replace c32 := Bool.eq_false_iff.mpr c32
        subst c32
        rw [if_neg (show ¬ (false = true) by decide)] at H
        replace H := Option.bind_eq_some_iff.mp H
        obtain ⟨t710, A560, H⟩ := H
        try dsimp only at H
        have A56 := Yt.mk A560
        clear A560
        replace H := Option.bind_eq_some_iff.mp H
        obtain ⟨t713, A570, H⟩ := H
        replace H : (some t713) = some r := H
        have A57 := Yt.mk A570
        clear A570
        obtain rfl := Option.some.inj H
        obtain ⟨Ao58, co58, eo58⟩ := Kd.Zx HO_5.out
        subst eo58
        obtain ⟨Ao59, co59, eo59⟩ := Kd.Zx HO_6.out
        subst eo59
        go_wp2_with (first | ((with_reducible refine Zr (f := 37) rfl ?_); refine Yg (some 68) rfl rfl Try.func37 Qa7 rfl #[.slice Ao58 x5_2.length co58, .slice Ao59 x6_2.length co59] rfl Qa2 ?_; (with_reducible refine (r1_Plus.calls kj26 _ _ x5_2 _ _ x6_2 t710 _ ?side1 ?side2 ?side3 ?side4 A56.out).mono ?_); (case side1 => exact Qe9 (Kd.Zs HO_5.out).2.2); (case side2 => exact (Kd.Zs HO_5.out).2.1); (case side3 => exact Qe9 (Kd.Zs HO_6.out).2.2); (case side4 => exact (Kd.Zs HO_6.out).2.1); rintro e w60 ⟨v711, rfl, ho0, hb⟩; refine ⟨_, rfl, ?_⟩; have HO712 := Yt.mk (Kd.Yb (Kd.Ya (Kd.Ya ho0 (Kd.R_lt (Qr1 HO_5.out))) (Kd.R_lt (Qr1 HO_6.out))) (Zk (Qa0))); replace HO_5 := Yt.mk (Kd.Yf (Qr1 HO_5.out) (Kd.Zw ho0) hb); replace HO_6 := Yt.mk (Kd.Yf (Qr1 HO_6.out) (Kd.Zw ho0) hb); replace HB := Yt.mk (Zm (Qa0) hb); (try clear hb); (try clear ho0); obtain ⟨Ao61, co61, eo61⟩ := Kd.Zx HO712.out; subst eo61) | ((with_reducible refine Zr (f := 84) rfl ?_); refine Yg (some 70) rfl rfl Try.func84 Qa7 rfl #[.slice Ao61 t710.length co61, .int .i64 x7_13] rfl Qa2 ?_; (with_reducible refine (r1_Shl.calls kj26 _ _ t710 x7_13 t713 _ ?side1 ?side2 A57.out).mono ?_); (case side1 => exact Qe9 (Kd.Zs HO712.out).2.2); (case side2 => exact (Kd.Zs HO712.out).2.1); rintro e w62 ⟨v714, rfl, ho0, hb⟩; refine ⟨_, rfl, ?_⟩; have HO715 := Yt.mk (Kd.Yb (Kd.Ya (Kd.Ya (Kd.Ya ho0 (Kd.R_lt (Qr1 HO_5.out))) (Kd.R_lt (Qr1 HO_6.out))) (Kd.R_lt (Qr1 HO712.out))) (Zk (Qa0))); replace HO_5 := Yt.mk (Kd.Yf (Qr1 HO_5.out) (Kd.Zw ho0) hb); replace HO_6 := Yt.mk (Kd.Yf (Qr1 HO_6.out) (Kd.Zw ho0) hb); replace HO712 := Yt.mk (Kd.Yf (Qr1 HO712.out) (Kd.Zw ho0) hb); replace HB := Yt.mk (Zm (Qa0) hb); (try clear hb); (try clear ho0)))
        go_ret
        exact ⟨_, Qa4, by (with_reducible repeat (first | apply Kd.Zf | apply Kd.Ze | apply Kd.Zj)); exact Kd.Zv HO715.out (fun _ hk => trivial), Qa0⟩
       subst c32
       rw [if_pos rfl] at H
       replace H := Option.bind_eq_some_iff.mp H
       obtain ⟨t716, A330, H⟩ := H
       try dsimp only at H
       have A33 := Yt.mk A330
       clear A330
       by_cases c34 : t716 = true
       rotate_left
       ·replace c34 := Bool.eq_false_iff.mpr c34
        subst c34
        rw [if_neg (show ¬ (false = true) by decide)] at H
        replace H := Option.bind_eq_some_iff.mp H
        obtain ⟨t728, A530, H⟩ := H
        replace H : (r1_Common.l1 kj26 t728 x6_2 x7_13) = some r := H
        have A53 := Yt.mk A530
        clear A530
        have H' := Yt.mk H
        clear H
        obtain ⟨Ao54, co54, eo54⟩ := Kd.Zx HO_5.out
        subst eo54
        go_wp2_with (first | ((with_reducible refine Zr (f := 85) rfl ?_); refine Yg (some 47) rfl rfl Try.func85 Qa7 rfl #[.slice Ao54 x5_2.length co54, .int .i64 0] rfl Qa2 ?_; (with_reducible refine (r1_Bit.calls _ _ x5_2 0 false _ ?side1 ?side2 A33.out).mono ?_); (case side1 => exact Qe9 (Kd.Zs HO_5.out).2.2); (case side2 => exact (Kd.Zs HO_5.out).2.1); rintro e w' ⟨rfl, ⟨nd, rfl⟩⟩; refine ⟨_, rfl, ?_⟩) | ((with_reducible refine Zr (f := 92) rfl ?_); refine Yg (some 50) rfl rfl Try.func92 Qa7 rfl #[.slice Ao54 x5_2.length co54, .int .i64 1] rfl Qa2 ?_; (with_reducible refine (r1_Shr.calls kj26 _ _ x5_2 1 t728 _ ?side1 ?side2 A53.out).mono ?_); (case side1 => exact Qe9 (Kd.Zs HO_5.out).2.2); (case side2 => exact (Kd.Zs HO_5.out).2.1); rintro e w55 ⟨v729, rfl, ho0, hb⟩; refine ⟨_, rfl, ?_⟩; have HO730 := Yt.mk (Kd.Yb (Kd.Ya (Kd.Ya ho0 (Kd.R_lt (Qr1 HO_5.out))) (Kd.R_lt (Qr1 HO_6.out))) (Zk (Qa0))); replace HO_5 := Yt.mk (Kd.Yf (Qr1 HO_5.out) (Kd.Zw ho0) hb); replace HO_6 := Yt.mk (Kd.Yf (Qr1 HO_6.out) (Kd.Zw ho0) hb); replace HB := Yt.mk (Zm (Qa0) hb); (try clear hb); (try clear ho0)))
        go_roundg kj26
        case measure => have := HJ13.out; have := HK2.out; have := HJ26.out; omega
        case rel => exact ⟨(t728), (x6_2), H', ⟨by have := HJ13.out; have := HK2.out; have := HJ26.out; omega⟩, ⟨by (with_reducible repeat (first | apply Kd.Zf | apply Kd.Ze | apply Kd.Zj)); exact Kd.Zv HO730.out (fun _ hk => hk.2)⟩, ⟨by (with_reducible repeat (first | apply Kd.Zf | apply Kd.Ze | apply Kd.Zj)); exact Kd.Zv HO_6.out (fun _ hk => hk.2)⟩, ⟨Qa0⟩⟩
       subst c34
       rw [if_pos rfl] at H
       replace H := Option.bind_eq_some_iff.mp H
       obtain ⟨t717, A350, H⟩ := H
       try dsimp only at H
       have A35 := Yt.mk A350
       clear A350
       by_cases c36 : t717 = true
       rotate_left
       ·replace c36 := Bool.eq_false_iff.mpr c36
        subst c36
        rw [if_neg (show ¬ (false = true) by decide)] at H
        replace H := Option.bind_eq_some_iff.mp H
        obtain ⟨t725, A490, H⟩ := H
        replace H : (r1_Common.l1 kj26 x5_2 t725 x7_13) = some r := H
        have A49 := Yt.mk A490
        clear A490
        have H' := Yt.mk H
        clear H
        obtain ⟨Ao50, co50, eo50⟩ := Kd.Zx HO_5.out
        subst eo50
        go_wp2_with (first | ((with_reducible refine Zr (f := 85) rfl ?_); refine Yg (some 47) rfl rfl Try.func85 Qa7 rfl #[.slice Ao50 x5_2.length co50, .int .i64 0] rfl Qa2 ?_; (with_reducible refine (r1_Bit.calls _ _ x5_2 0 true _ ?side1 ?side2 A33.out).mono ?_); (case side1 => exact Qe9 (Kd.Zs HO_5.out).2.2); (case side2 => exact (Kd.Zs HO_5.out).2.1); rintro e w' ⟨rfl, ⟨nd, rfl⟩⟩; refine ⟨_, rfl, ?_⟩; obtain ⟨Ao51, co51, eo51⟩ := Kd.Zx HO_6.out; subst eo51) | ((with_reducible refine Zr (f := 85) rfl ?_); refine Yg (some 52) rfl rfl Try.func85 Qa7 rfl #[.slice Ao51 x6_2.length co51, .int .i64 0] rfl Qa2 ?_; (with_reducible refine (r1_Bit.calls _ _ x6_2 0 false _ ?side1 ?side2 A35.out).mono ?_); (case side1 => exact Qe9 (Kd.Zs HO_6.out).2.2); (case side2 => exact (Kd.Zs HO_6.out).2.1); rintro e w' ⟨rfl, ⟨nd, rfl⟩⟩; refine ⟨_, rfl, ?_⟩) | ((with_reducible refine Zr (f := 92) rfl ?_); refine Yg (some 55) rfl rfl Try.func92 Qa7 rfl #[.slice Ao51 x6_2.length co51, .int .i64 1] rfl Qa2 ?_; (with_reducible refine (r1_Shr.calls kj26 _ _ x6_2 1 t725 _ ?side1 ?side2 A49.out).mono ?_); (case side1 => exact Qe9 (Kd.Zs HO_6.out).2.2); (case side2 => exact (Kd.Zs HO_6.out).2.1); rintro e w52 ⟨v726, rfl, ho0, hb⟩; refine ⟨_, rfl, ?_⟩; have HO727 := Yt.mk (Kd.Yb (Kd.Ya (Kd.Ya ho0 (Kd.R_lt (Qr1 HO_5.out))) (Kd.R_lt (Qr1 HO_6.out))) (Zk (Qa0))); replace HO_5 := Yt.mk (Kd.Yf (Qr1 HO_5.out) (Kd.Zw ho0) hb); replace HO_6 := Yt.mk (Kd.Yf (Qr1 HO_6.out) (Kd.Zw ho0) hb); replace HB := Yt.mk (Zm (Qa0) hb); (try clear hb); (try clear ho0)))
        go_roundg kj26
        case measure => have := HJ13.out; have := HK2.out; have := HJ26.out; omega
        case rel => exact ⟨(x5_2), (t725), H', ⟨by have := HJ13.out; have := HK2.out; have := HJ26.out; omega⟩, ⟨by (with_reducible repeat (first | apply Kd.Zf | apply Kd.Ze | apply Kd.Zj)); exact Kd.Zv HO_5.out (fun _ hk => hk.2)⟩, ⟨by (with_reducible repeat (first | apply Kd.Zf | apply Kd.Ze | apply Kd.Zj)); exact Kd.Zv HO727.out (fun _ hk => hk.1.2)⟩, ⟨Qa0⟩⟩
       subst c36
       rw [if_pos rfl] at H
       replace H := Option.bind_eq_some_iff.mp H
       obtain ⟨t718, A370, H⟩ := H
       try dsimp only at H
       have A37 := Yt.mk A370
       clear A370
       by_cases c38 : t718 ≥ 0
       ·rw [if_pos c38] at H
        have c38b0 : decide (0 ≤ t718) = true := decide_eq_true c38
        clear c38
        replace H := Option.bind_eq_some_iff.mp H
        obtain ⟨t719, A390, H⟩ := H
        replace H : (r1_Common.l1 kj26 t719 x6_2 x7_13) = some r := H
        have A39 := Yt.mk A390
        clear A390
        have H' := Yt.mk H
        clear H
        obtain ⟨Ao40, co40, eo40⟩ := Kd.Zx HO_5.out
        subst eo40
        go_wp2_with (first | ((with_reducible refine Zr (f := 85) rfl ?_); refine Yg (some 47) rfl rfl Try.func85 Qa7 rfl #[.slice Ao40 x5_2.length co40, .int .i64 0] rfl Qa2 ?_; (with_reducible refine (r1_Bit.calls _ _ x5_2 0 true _ ?side1 ?side2 A33.out).mono ?_); (case side1 => exact Qe9 (Kd.Zs HO_5.out).2.2); (case side2 => exact (Kd.Zs HO_5.out).2.1); rintro e w' ⟨rfl, ⟨nd, rfl⟩⟩; refine ⟨_, rfl, ?_⟩; obtain ⟨Ao41, co41, eo41⟩ := Kd.Zx HO_6.out; subst eo41) | ((with_reducible refine Zr (f := 85) rfl ?_); refine Yg (some 52) rfl rfl Try.func85 Qa7 rfl #[.slice Ao41 x6_2.length co41, .int .i64 0] rfl Qa2 ?_; (with_reducible refine (r1_Bit.calls _ _ x6_2 0 true _ ?side1 ?side2 A35.out).mono ?_); (case side1 => exact Qe9 (Kd.Zs HO_6.out).2.2); (case side2 => exact (Kd.Zs HO_6.out).2.1); rintro e w' ⟨rfl, ⟨nd, rfl⟩⟩; refine ⟨_, rfl, ?_⟩) | ((with_reducible refine Zr (f := 36) rfl ?_); refine Yg (some 58) rfl rfl Try.func36 Qa7 rfl #[.slice Ao40 x5_2.length co40, .slice Ao41 x6_2.length co41] rfl Qa2 ?_; (with_reducible refine (r1_Cmp.calls kj26 _ _ x5_2 _ _ x6_2 t718 _ ?side1 ?side2 ?side3 ?side4 A37.out).mono ?_); (case side1 => exact Qe9 (Kd.Zs HO_5.out).2.2); (case side2 => exact (Kd.Zs HO_5.out).2.1); (case side3 => exact Qe9 (Kd.Zs HO_6.out).2.2); (case side4 => exact (Kd.Zs HO_6.out).2.1); rintro e w42 ⟨rfl, hb⟩; refine ⟨_, rfl, ?_⟩; replace HO_5 := Yt.mk (Kd.Yd (Qr1 HO_5.out) hb); replace HO_6 := Yt.mk (Kd.Yd (Qr1 HO_6.out) hb); replace HB := Yt.mk (Zm (Qa0) hb); (try clear hb)) | ((with_reducible refine Zr (f := 45) rfl ?_); refine Yg (some 62) rfl rfl Try.func45 Qa7 rfl #[.slice Ao40 x5_2.length co40, .slice Ao41 x6_2.length co41] rfl Qa2 ?_; (with_reducible refine (r1_Minus.calls kj26 _ _ x5_2 _ _ x6_2 t719 _ ?side1 ?side2 ?side3 ?side4 A39.out).mono ?_); (case side1 => exact Qe9 (Kd.Zs HO_5.out).2.2); (case side2 => exact (Kd.Zs HO_5.out).2.1); (case side3 => exact Qe9 (Kd.Zs HO_6.out).2.2); (case side4 => exact (Kd.Zs HO_6.out).2.1); rintro e w43 ⟨v720, rfl, ho0, hb⟩; refine ⟨_, rfl, ?_⟩; have HO721 := Yt.mk (Kd.Yb (Kd.Ya (Kd.Ya ho0 (Kd.R_lt (Qr1 HO_5.out))) (Kd.R_lt (Qr1 HO_6.out))) (Zk (Qa0))); replace HO_5 := Yt.mk (Kd.Yf (Qr1 HO_5.out) (Kd.Zw ho0) hb); replace HO_6 := Yt.mk (Kd.Yf (Qr1 HO_6.out) (Kd.Zw ho0) hb); replace HB := Yt.mk (Zm (Qa0) hb); (try clear hb); (try clear ho0)))
        go_roundg kj26
        case measure => have := HJ13.out; have := HK2.out; have := HJ26.out; omega
        case rel => exact ⟨(t719), (x6_2), H', ⟨by have := HJ13.out; have := HK2.out; have := HJ26.out; omega⟩, ⟨by (with_reducible repeat (first | apply Kd.Zf | apply Kd.Ze | apply Kd.Zj)); exact Kd.Zv HO721.out (fun _ hk => hk.2)⟩, ⟨by (with_reducible repeat (first | apply Kd.Zf | apply Kd.Ze | apply Kd.Zj)); exact Kd.Zv HO_6.out (fun _ hk => hk.2)⟩, ⟨Qa0⟩⟩
       rw [if_neg c38] at H
       have c38b0 : decide (0 ≤ t718) = false := decide_eq_false c38
       clear c38
       replace H := Option.bind_eq_some_iff.mp H
       obtain ⟨t722, A440, H⟩ := H
       replace H : (r1_Common.l1 kj26 x5_2 t722 x7_13) = some r := H
       have A44 := Yt.mk A440
       clear A440
       have H' := Yt.mk H
       clear H
       obtain ⟨Ao45, co45, eo45⟩ := Kd.Zx HO_5.out
       subst eo45
       go_wp2_with (first | ((with_reducible refine Zr (f := 85) rfl ?_); refine Yg (some 47) rfl rfl Try.func85 Qa7 rfl #[.slice Ao45 x5_2.length co45, .int .i64 0] rfl Qa2 ?_; (with_reducible refine (r1_Bit.calls _ _ x5_2 0 true _ ?side1 ?side2 A33.out).mono ?_); (case side1 => exact Qe9 (Kd.Zs HO_5.out).2.2); (case side2 => exact (Kd.Zs HO_5.out).2.1); rintro e w' ⟨rfl, ⟨nd, rfl⟩⟩; refine ⟨_, rfl, ?_⟩; obtain ⟨Ao46, co46, eo46⟩ := Kd.Zx HO_6.out; subst eo46) | ((with_reducible refine Zr (f := 85) rfl ?_); refine Yg (some 52) rfl rfl Try.func85 Qa7 rfl #[.slice Ao46 x6_2.length co46, .int .i64 0] rfl Qa2 ?_; (with_reducible refine (r1_Bit.calls _ _ x6_2 0 true _ ?side1 ?side2 A35.out).mono ?_); (case side1 => exact Qe9 (Kd.Zs HO_6.out).2.2); (case side2 => exact (Kd.Zs HO_6.out).2.1); rintro e w' ⟨rfl, ⟨nd, rfl⟩⟩; refine ⟨_, rfl, ?_⟩) | ((with_reducible refine Zr (f := 36) rfl ?_); refine Yg (some 58) rfl rfl Try.func36 Qa7 rfl #[.slice Ao45 x5_2.length co45, .slice Ao46 x6_2.length co46] rfl Qa2 ?_; (with_reducible refine (r1_Cmp.calls kj26 _ _ x5_2 _ _ x6_2 t718 _ ?side1 ?side2 ?side3 ?side4 A37.out).mono ?_); (case side1 => exact Qe9 (Kd.Zs HO_5.out).2.2); (case side2 => exact (Kd.Zs HO_5.out).2.1); (case side3 => exact Qe9 (Kd.Zs HO_6.out).2.2); (case side4 => exact (Kd.Zs HO_6.out).2.1); rintro e w47 ⟨rfl, hb⟩; refine ⟨_, rfl, ?_⟩; replace HO_5 := Yt.mk (Kd.Yd (Qr1 HO_5.out) hb); replace HO_6 := Yt.mk (Kd.Yd (Qr1 HO_6.out) hb); replace HB := Yt.mk (Zm (Qa0) hb); (try clear hb)) | ((with_reducible refine Zr (f := 45) rfl ?_); refine Yg (some 65) rfl rfl Try.func45 Qa7 rfl #[.slice Ao46 x6_2.length co46, .slice Ao45 x5_2.length co45] rfl Qa2 ?_; (with_reducible refine (r1_Minus.calls kj26 _ _ x6_2 _ _ x5_2 t722 _ ?side1 ?side2 ?side3 ?side4 A44.out).mono ?_); (case side1 => exact Qe9 (Kd.Zs HO_6.out).2.2); (case side2 => exact (Kd.Zs HO_6.out).2.1); (case side3 => exact Qe9 (Kd.Zs HO_5.out).2.2); (case side4 => exact (Kd.Zs HO_5.out).2.1); rintro e w48 ⟨v723, rfl, ho0, hb⟩; refine ⟨_, rfl, ?_⟩; have HO724 := Yt.mk (Kd.Yb (Kd.Ya (Kd.Ya ho0 (Kd.R_lt (Qr1 HO_5.out))) (Kd.R_lt (Qr1 HO_6.out))) (Zk (Qa0))); replace HO_5 := Yt.mk (Kd.Yf (Qr1 HO_5.out) (Kd.Zw ho0) hb); replace HO_6 := Yt.mk (Kd.Yf (Qr1 HO_6.out) (Kd.Zw ho0) hb); replace HB := Yt.mk (Zm (Qa0) hb); (try clear hb); (try clear ho0)))
       go_roundg kj26
       case measure => have := HJ13.out; have := HK2.out; have := HJ26.out; omega
       case rel => exact ⟨(x5_2), (t722), H', ⟨by have := HJ13.out; have := HK2.out; have := HJ26.out; omega⟩, ⟨by (with_reducible repeat (first | apply Kd.Zf | apply Kd.Ze | apply Kd.Zj)); exact Kd.Zv HO_5.out (fun _ hk => hk.2)⟩, ⟨by (with_reducible repeat (first | apply Kd.Zf | apply Kd.Ze | apply Kd.Zj)); exact Kd.Zv HO724.out (fun _ hk => hk.1.2)⟩, ⟨Qa0⟩⟩
def r2_Form.j0 : Nat → Bool → Bool → List Int → List Int → Option (Bool)
 | 0, _, _, _, _ => none
 | k + 1, x28, x1213000, x1213001, x1213002 => if x28 = true then (some false) else ((r1_Common.f k x1213001 x1213002).bind fun t1215 => ((r1_Same.f k t1215 (([1] : List Int))).bind fun t1221 => (some t1221)))
def r2_Form.f (k : Nat) (a0_0 : Bool) (l0_1 : List Int) (l0_2 : List Int) : Option (Bool) := (r1_Form.f l0_1).bind fun t1213 => (if t1213 = true then ((r1_Form.f l0_2).bind fun t1214 => (if t1214 = true then (if (l0_2.length : Int) = 0 then (r2_Form.j0 k true a0_0 l0_1 l0_2) else (if a0_0 = true then (r2_Form.j0 k ((l0_1.length : Int) == 0) a0_0 l0_1 l0_2) else (r2_Form.j0 k false a0_0 l0_1 l0_2))) else (r2_Form.j0 k true a0_0 l0_1 l0_2))) else (r2_Form.j0 k true a0_0 l0_1 l0_2))
theorem r2_Form.calls (k : Nat) (a0_0 : Bool) (A0_1 : Option Addr) (c0_1 : Nat) (l0_1 : List Int) (A0_2 : Option Addr) (c0_2 : Nat) (l0_2 : List Int) (r : Bool) (w : World) (hr0_1 : Kd.C (Kd.int .u32) w A0_1 l0_1.length l0_1) (hc0_1 : l0_1.length ≤ c0_1) (hr0_2 : Kd.C (Kd.int .u32) w A0_2 l0_2.length l0_2) (hc0_2 : l0_2.length ≤ c0_2) (h : r2_Form.f k a0_0 l0_1 l0_2 = some r) :
  Calls Try.prog 52 #[.agg #[.bool a0_0, .slice A0_1 l0_1.length c0_1, .slice A0_2 l0_2.length c0_2]] w fun e w' => e = .returned (.bool r) ∧ Below w.heap.size w w' := by
 have hu50 := Try.underlying50
 have HR0_1 := Yt.mk hr0_1
 have HC0_1 := Yt.mk hc0_1
 clear hr0_1 hc0_1
 have HR0_2 := Yt.mk hr0_2
 have HC0_2 := Yt.mk hc0_2
 clear hr0_2 hc0_2
 have HB := Yt.mk (Below.refl w.heap.size w)
 unfold r2_Form.f at h
 have H := h
 clear h
 have HC2 := Yt.mk H
 clear H
 go_enter Try.func52, Try.ntmps52
 go_upto_region 1 with (first | ((with_reducible refine Yk (N := 1) rfl ?_); (try (refine gate_guard (by rfl) ?_; dsimp only)); refine Yo ?hg (N := 1) ?hd (cs := #[.bool a0_0, .slice A0_1 l0_1.length c0_1, .slice A0_2 l0_2.length c0_2]) (t := 50) ?hr ?_; (case hd => rfl); (case hg => rfl); (case hr => exact Qa8); intro gb1212 hg w3 hbox hb; have BK1212 := Yt.mk (hbox); have GW1212 := Yt.mk ((by rw [hg]; exact (Zk (Qa0)) : w.heap.size ≤ gb1212)); have GE1212 := Yt.mk ((by rw [hg]; exact (Zk (Qa0)) : w.heap.size ≤ gb1212)); replace HB := Yt.mk (Zm (Qa0) hb); clear hb hbox hg))
 (try simp only [Act.put, List.setIfInBounds_toArray, List.set_cons_zero, List.set_cons_succ])
 go_cut [28] (fun v28 wc => ∃ (kq : Nat) (x28_1 : Bool), v28 = .bool x28_1 ∧ Yt (r2_Form.j0 kq x28_1 a0_0 l0_1 l0_2 = some r) ∧ Yt (kq ≤ k) ∧ Yt (wc.heap[gb1212]? = some (.cells #[.bool a0_0, (.slice A0_1 l0_1.length c0_1), (.slice A0_2 l0_2.length c0_2)] 50 (0, 0))) ∧ Yt (Below w.heap.size w wc))
 case first =>
  have H := HC2.out
  clear HC2
  replace H := Option.bind_eq_some_iff.mp H
  obtain ⟨t1213, A40, H⟩ := H
  try dsimp only at H
  have A4 := Yt.mk A40
  clear A40
  by_cases c5 : t1213 = true
  rotate_left
  ·replace c5 := Bool.eq_false_iff.mpr c5
   subst c5
   rw [if_neg (show ¬ (false = true) by decide)] at H
   have H' := Yt.mk H
   clear H
   have hcz14_0 : w3.cell? ⟨gb1212, 0, none⟩ = some (.bool a0_0) := (Zl BK1212.out 0).trans rfl
   have hcz14_1 : w3.cell? ⟨gb1212, 1, none⟩ = some (.slice A0_1 l0_1.length c0_1) := (Zl BK1212.out 1).trans rfl
   have hcz14_2 : w3.cell? ⟨gb1212, 2, none⟩ = some (.slice A0_2 l0_2.length c0_2) := (Zl BK1212.out 2).trans rfl
   have hfz14_0 := Zn BK1212.out 0
   have hfz14_1 := Zn BK1212.out 1
   have hfz14_2 := Zn BK1212.out 2
   go_wp2_with (first | ((with_reducible refine Zr (f := 39) rfl ?_); refine Yg (some 5) rfl rfl Try.func39 Qa7 rfl #[.slice A0_1 l0_1.length c0_1] rfl Qa2 ?_; (with_reducible refine (r1_Form.calls _ _ l0_1 false _ ?side1 ?side2 A4.out).mono ?_); (case side1 => exact Qe9 (Kd.Ys HR0_1.out HB.out)); (case side2 => exact HC0_1.out); rintro e w' ⟨rfl, ⟨nd, rfl⟩⟩; refine ⟨_, rfl, ?_⟩))
   go_meet
   case rel => exact ⟨_, (true), Qa5, H', ⟨by first | omega | exact Nat.le_refl _⟩, ⟨Qr12 BK1212.out⟩, ⟨Qa0⟩⟩
  subst c5
  rw [if_pos rfl] at H
  replace H := Option.bind_eq_some_iff.mp H
  obtain ⟨t1214, A60, H⟩ := H
  try dsimp only at H
  have A6 := Yt.mk A60
  clear A60
  by_cases c7 : t1214 = true
  rotate_left
  ·replace c7 := Bool.eq_false_iff.mpr c7
   subst c7
   rw [if_neg (show ¬ (false = true) by decide)] at H
   have H' := Yt.mk H
   clear H
   have hcz13_0 : w3.cell? ⟨gb1212, 0, none⟩ = some (.bool a0_0) := (Zl BK1212.out 0).trans rfl
   have hcz13_1 : w3.cell? ⟨gb1212, 1, none⟩ = some (.slice A0_1 l0_1.length c0_1) := (Zl BK1212.out 1).trans rfl
   have hcz13_2 : w3.cell? ⟨gb1212, 2, none⟩ = some (.slice A0_2 l0_2.length c0_2) := (Zl BK1212.out 2).trans rfl
   have hfz13_0 := Zn BK1212.out 0
   have hfz13_1 := Zn BK1212.out 1
   have hfz13_2 := Zn BK1212.out 2
   go_wp2_with (first | ((with_reducible refine Zr (f := 39) rfl ?_); refine Yg (some 5) rfl rfl Try.func39 Qa7 rfl #[.slice A0_1 l0_1.length c0_1] rfl Qa2 ?_; (with_reducible refine (r1_Form.calls _ _ l0_1 true _ ?side1 ?side2 A4.out).mono ?_); (case side1 => exact Qe9 (Kd.Ys HR0_1.out HB.out)); (case side2 => exact HC0_1.out); rintro e w' ⟨rfl, ⟨nd, rfl⟩⟩; refine ⟨_, rfl, ?_⟩) | (go_at_call 39; (with_reducible refine (r1_Form.calls _ _ l0_2 false _ ?side1 ?side2 A6.out).mono ?_); (case side1 => repeat (first | exact (Kd.Ys HR0_2.out (Qa0)) | (with_reducible refine Kd.Zu ?_ _) | (with_reducible refine Kd.Zt ?_ _) | (with_reducible refine Kd.Yc ?_))); (case side2 => exact HC0_2.out); rintro e w' ⟨rfl, ⟨nd, rfl⟩⟩))
   go_meet
   case rel => exact ⟨_, (true), Qa5, H', ⟨by first | omega | exact Nat.le_refl _⟩, ⟨Qr12 BK1212.out⟩, ⟨Qa0⟩⟩
  subst c7
  rw [if_pos rfl] at H
  by_cases c8 : (l0_2.length : Int) = 0
  ·rw [if_pos c8] at H
   have c8b0 : ((l0_2.length : Int) == 0) = true := beq_iff_eq.mpr c8
   have c8b1 : ((l0_2.length : Int) != 0) = false := bne_eq_false_iff_eq.mpr c8
   clear c8
   (first | rw [c8b0] | rw [c8b1] | (simp only [Yi, Yj]; rw [c8b0]) | skip)
   have H' := Yt.mk H
   clear H
   have hcz9_0 : w3.cell? ⟨gb1212, 0, none⟩ = some (.bool a0_0) := (Zl BK1212.out 0).trans rfl
   have hcz9_1 : w3.cell? ⟨gb1212, 1, none⟩ = some (.slice A0_1 l0_1.length c0_1) := (Zl BK1212.out 1).trans rfl
   have hcz9_2 : w3.cell? ⟨gb1212, 2, none⟩ = some (.slice A0_2 l0_2.length c0_2) := (Zl BK1212.out 2).trans rfl
   have hfz9_0 := Zn BK1212.out 0
   have hfz9_1 := Zn BK1212.out 1
   have hfz9_2 := Zn BK1212.out 2
   go_wp2_with (first | ((with_reducible refine Zr (f := 39) rfl ?_); refine Yg (some 5) rfl rfl Try.func39 Qa7 rfl #[.slice A0_1 l0_1.length c0_1] rfl Qa2 ?_; (with_reducible refine (r1_Form.calls _ _ l0_1 true _ ?side1 ?side2 A4.out).mono ?_); (case side1 => exact Qe9 (Kd.Ys HR0_1.out HB.out)); (case side2 => exact HC0_1.out); rintro e w' ⟨rfl, ⟨nd, rfl⟩⟩; refine ⟨_, rfl, ?_⟩) | (go_at_call 39; (with_reducible refine (r1_Form.calls _ _ l0_2 true _ ?side1 ?side2 A6.out).mono ?_); (case side1 => repeat (first | exact (Kd.Ys HR0_2.out (Qa0)) | (with_reducible refine Kd.Zu ?_ _) | (with_reducible refine Kd.Zt ?_ _) | (with_reducible refine Kd.Yc ?_))); (case side2 => exact HC0_2.out); rintro e w' ⟨rfl, ⟨nd, rfl⟩⟩))
   go_meet
   case rel => exact ⟨_, (true), Qa5, H', ⟨by first | omega | exact Nat.le_refl _⟩, ⟨Qr12 BK1212.out⟩, ⟨Qa0⟩⟩
  rw [if_neg c8] at H
  have c8b0 : ((l0_2.length : Int) == 0) = false := beq_eq_false_iff_ne.mpr c8
  have c8b1 : ((l0_2.length : Int) != 0) = true := bne_iff_ne.mpr c8
  have c8b2 : ¬ (l0_2 = []) := fun h_ => c8 (by rw [h_]; rfl)
  (first | rw [c8b0] | rw [c8b1] | (simp only [Yi, Yj]; rw [c8b0]) | skip)
  by_cases c10 : a0_0 = true
  ·subst c10
   rw [if_pos rfl] at H
   have H' := Yt.mk H
   clear H
   have hcz11_0 : w3.cell? ⟨gb1212, 0, none⟩ = some (.bool true) := (Zl BK1212.out 0).trans rfl
   have hcz11_1 : w3.cell? ⟨gb1212, 1, none⟩ = some (.slice A0_1 l0_1.length c0_1) := (Zl BK1212.out 1).trans rfl
   have hcz11_2 : w3.cell? ⟨gb1212, 2, none⟩ = some (.slice A0_2 l0_2.length c0_2) := (Zl BK1212.out 2).trans rfl
   have hfz11_0 := Zn BK1212.out 0
   have hfz11_1 := Zn BK1212.out 1
   have hfz11_2 := Zn BK1212.out 2
   go_wp2_with (first | ((with_reducible refine Zr (f := 39) rfl ?_); refine Yg (some 5) rfl rfl Try.func39 Qa7 rfl #[.slice A0_1 l0_1.length c0_1] rfl Qa2 ?_; (with_reducible refine (r1_Form.calls _ _ l0_1 true _ ?side1 ?side2 A4.out).mono ?_); (case side1 => exact Qe9 (Kd.Ys HR0_1.out HB.out)); (case side2 => exact HC0_1.out); rintro e w' ⟨rfl, ⟨nd, rfl⟩⟩; refine ⟨_, rfl, ?_⟩) | (go_at_call 39; (with_reducible refine (r1_Form.calls _ _ l0_2 true _ ?side1 ?side2 A6.out).mono ?_); (case side1 => repeat (first | exact (Kd.Ys HR0_2.out (Qa0)) | (with_reducible refine Kd.Zu ?_ _) | (with_reducible refine Kd.Zt ?_ _) | (with_reducible refine Kd.Yc ?_))); (case side2 => exact HC0_2.out); rintro e w' ⟨rfl, ⟨nd, rfl⟩⟩))
   go_meet
   case rel => exact ⟨_, (((l0_1.length : Int) == 0)), Qa5, H', ⟨by first | omega | exact Nat.le_refl _⟩, ⟨Qr12 BK1212.out⟩, ⟨Qa0⟩⟩
  replace c10 := Bool.eq_false_iff.mpr c10
  subst c10
  rw [if_neg (show ¬ (false = true) by decide)] at H
  have H' := Yt.mk H
  clear H
  have hcz12_0 : w3.cell? ⟨gb1212, 0, none⟩ = some (.bool false) := (Zl BK1212.out 0).trans rfl
  have hcz12_1 : w3.cell? ⟨gb1212, 1, none⟩ = some (.slice A0_1 l0_1.length c0_1) := (Zl BK1212.out 1).trans rfl
  have hcz12_2 : w3.cell? ⟨gb1212, 2, none⟩ = some (.slice A0_2 l0_2.length c0_2) := (Zl BK1212.out 2).trans rfl
  have hfz12_0 := Zn BK1212.out 0
  have hfz12_1 := Zn BK1212.out 1
  have hfz12_2 := Zn BK1212.out 2
  go_wp2_with (first | ((with_reducible refine Zr (f := 39) rfl ?_); refine Yg (some 5) rfl rfl Try.func39 Qa7 rfl #[.slice A0_1 l0_1.length c0_1] rfl Qa2 ?_; (with_reducible refine (r1_Form.calls _ _ l0_1 true _ ?side1 ?side2 A4.out).mono ?_); (case side1 => exact Qe9 (Kd.Ys HR0_1.out HB.out)); (case side2 => exact HC0_1.out); rintro e w' ⟨rfl, ⟨nd, rfl⟩⟩; refine ⟨_, rfl, ?_⟩) | (go_at_call 39; (with_reducible refine (r1_Form.calls _ _ l0_2 true _ ?side1 ?side2 A6.out).mono ?_); (case side1 => repeat (first | exact (Kd.Ys HR0_2.out (Qa0)) | (with_reducible refine Kd.Zu ?_ _) | (with_reducible refine Kd.Zt ?_ _) | (with_reducible refine Kd.Yc ?_))); (case side2 => exact HC0_2.out); rintro e w' ⟨rfl, ⟨nd, rfl⟩⟩))
  go_meet
  case rel => exact ⟨_, (false), Qa5, H', ⟨by first | omega | exact Nat.le_refl _⟩, ⟨Qr12 BK1212.out⟩, ⟨Qa0⟩⟩
 case rest =>
  clear HC2
  try clear c1; try clear p2; try clear c3; try clear c5; try clear c7; try clear c8; try clear c8b0; try clear c8b1; try clear c8b2; try clear c10; try clear hcz11_0; try clear hcz11_1; try clear hcz11_2; try clear hcz12_0; try clear hcz12_1; try clear hcz12_2; try clear hcz13_0; try clear hcz13_1; try clear hcz13_2; try clear hcz14_0; try clear hcz14_1; try clear hcz14_2; try clear hcz9_0; try clear hcz9_1; try clear hcz9_2; try clear hfz11_0; try clear hfz11_1; try clear hfz11_2; try clear hfz12_0; try clear hfz12_1; try clear hfz12_2; try clear hfz13_0; try clear hfz13_1; try clear hfz13_2; try clear hfz14_0; try clear hfz14_1; try clear hfz14_2; try clear hfz9_0; try clear hfz9_1; try clear hfz9_2
  obtain ⟨kq, x28_1, rfl, HA, HJ1, BK1212, HB⟩ := hcut
  cases kq with
  | zero => exact absurd HA.out (by simp [r2_Form.j0])
  | succ kj1 =>
   have H := HA.out
   clear HA
   simp only [r2_Form.j0] at H
   by_cases c15 : x28_1 = true
   ·subst c15
    rw [if_pos rfl] at H
    obtain rfl := Option.some.inj H
    go_wp2
    go_ret
    exact ⟨Qa4, Qa0⟩
   replace c15 := Bool.eq_false_iff.mpr c15
   subst c15
   rw [if_neg (show ¬ (false = true) by decide)] at H
   replace H := Option.bind_eq_some_iff.mp H
   obtain ⟨t1215, A160, H⟩ := H
   try dsimp only at H
   have A16 := Yt.mk A160
   clear A160
   obtain ⟨y1218, hy1218⟩ : ∃ y_ : List Int, y_ = (([1] : List Int)) := ⟨_, rfl⟩
   replace H : ((r1_Same.f kj1 t1215 y1218).bind fun t1221 => (some t1221)) = some r := Qh hy1218 H
   have Ny1218 := Yt.mk hy1218
   clear hy1218
   replace H := Option.bind_eq_some_iff.mp H
   obtain ⟨t1221, A170, H⟩ := H
   replace H : (some t1221) = some r := H
   have A17 := Yt.mk A170
   clear A170
   obtain rfl := Option.some.inj H
   have hcz18_0 : wc.cell? ⟨gb1212, 0, none⟩ = some (.bool a0_0) := (Zl BK1212.out 0).trans rfl
   have hcz18_1 : wc.cell? ⟨gb1212, 1, none⟩ = some (.slice A0_1 l0_1.length c0_1) := (Zl BK1212.out 1).trans rfl
   have hcz18_2 : wc.cell? ⟨gb1212, 2, none⟩ = some (.slice A0_2 l0_2.length c0_2) := (Zl BK1212.out 2).trans rfl
   have hfz18_0 := Zn BK1212.out 0
   have hfz18_1 := Zn BK1212.out 1
   have hfz18_2 := Zn BK1212.out 2
   go_wp2_with (first | ((with_reducible refine Zr (f := 41) rfl ?_); refine Yg (some 33) rfl rfl Try.func41 Qa7 rfl #[.slice A0_1 l0_1.length c0_1, .slice A0_2 l0_2.length c0_2] rfl Qa2 ?_; (with_reducible refine (r1_Common.calls kj1 _ _ l0_1 _ _ l0_2 t1215 _ ?side1 ?side2 ?side3 ?side4 A16.out).mono ?_); (case side1 => exact Qe9 (Kd.Ys HR0_1.out HB.out)); (case side2 => exact HC0_1.out); (case side3 => exact Qe9 (Kd.Ys HR0_2.out HB.out)); (case side4 => exact HC0_2.out); rintro e w19 ⟨v1216, rfl, ho0, hb⟩; refine ⟨_, rfl, ?_⟩; have HO1217 := Yt.mk (Kd.Yb ho0 (Zk (Qa0))); replace BK1212 := Yt.mk (Zq (g := gb1212) (o := .cells #[.bool a0_0, .slice A0_1 l0_1.length c0_1, .slice A0_2 l0_2.length c0_2] 50 (0, 0)) (Qr12 BK1212.out) hb); replace HB := Yt.mk (Zm (Qa0) hb); (try clear hb); (try clear ho0)) | ((with_reducible refine Yk (N := 34) rfl ?_); (try (refine gate_guard (by rfl) ?_; dsimp only)); refine Kd.R_lit (Kd.int .u32) _ 47 ?hg (N := 34) ?hd (xs := ([1] : List Int)) (inner := [.int .u32 1]) (ok := fun _ => True) (okp := fun _ => True) ?hr ?hp (fun _ hk => hk) trivial (Below.refl _ _) (Nat.le_refl _) (by simp) ?_; (case hd => rfl); (case hg => rfl); (case hr => exact Qa8); (case hp => exact (Reps.one (show Kd.M (Kd.int .u32) _ _ _ 1 [.int .u32 1] from rfl) (Reps.none _ _))); intro v1219 w20 ho21 hb hg_ hnew_; clear hg_ hnew_; (first | rw [← Ny1218.out] at ho21 | (simp only [Int.reduceToNat] at ho21; rw [← Ny1218.out] at ho21)); have HO1220 := Yt.mk (Kd.Yb (Kd.Ya ho21 (Kd.R_lt (Qr1 HO1217.out))) (Zk (Qa0))); replace HO1217 := Yt.mk (Kd.Yf (Qr1 HO1217.out) (Kd.Zw ho21) hb); replace BK1212 := Yt.mk (Zq (g := gb1212) (o := .cells #[.bool a0_0, .slice A0_1 l0_1.length c0_1, .slice A0_2 l0_2.length c0_2] 50 (0, 0)) (Qr12 BK1212.out) hb); replace HB := Yt.mk (Zm (Qa0) hb); clear hb ho21; obtain ⟨Ao22, co22, eo22⟩ := Kd.Zx HO1217.out; subst eo22; obtain ⟨Ao23, co23, eo23⟩ := Kd.Zx HO1220.out; subst eo23) | ((with_reducible refine Zr (f := 25) rfl ?_); refine Yg (some 35) rfl rfl Try.func25 Qa7 rfl #[.slice Ao22 t1215.length co22, .slice Ao23 y1218.length co23] rfl Qa2 ?_; (with_reducible refine (r1_Same.calls kj1 _ _ t1215 _ _ y1218 t1221 _ ?side1 ?side2 ?side3 ?side4 A17.out).mono ?_); (case side1 => exact Qe9 (Kd.Zs HO1217.out).2.2); (case side2 => exact (Kd.Zs HO1217.out).2.1); (case side3 => exact Qe9 (Kd.Zs HO1220.out).2.2); (case side4 => exact (Kd.Zs HO1220.out).2.1); rintro e w' ⟨rfl, ⟨nd, rfl⟩⟩; refine ⟨_, rfl, ?_⟩))
   go_ret
   exact ⟨Qa4, Qa0⟩
def r2_Text.j0 : Nat → ByteArray → Bool → List Int → List Int → Option (ByteArray × Int)
 | 0, _, _, _, _ => none
 | k + 1, x4, x1332000, x1332001, x1332002 => (r1_Same.f k x1332002 (([1] : List Int))).bind fun t1338 => (if t1338 = true then (some (x4, 0)) else ((r1_Text.f k x1332002).bind fun bt1339 => (if x4.size + 1 ≤ 9223372036854775807 then (if (x4 ++ (⟨#[47]⟩ : ByteArray)).size + bt1339.1.size ≤ 9223372036854775807 then (some ((x4 ++ (⟨#[47]⟩ : ByteArray)) ++ bt1339.1, 0)) else (none)) else (none))))
def r2_Text.f (k : Nat) (a0_0 : Bool) (l0_1 : List Int) (l0_2 : List Int) : Option (ByteArray × Int) := (r2_Form.f k a0_0 l0_1 l0_2).bind fun t1332 => (if t1332 = true then ((r1_Text.f k l0_1).bind fun bt1333 => (if a0_0 = true then (if 1 + bt1333.1.size ≤ 9223372036854775807 then (r2_Text.j0 k ((⟨#[45]⟩ : ByteArray) ++ bt1333.1) a0_0 l0_1 l0_2) else (none)) else (r2_Text.j0 k bt1333.1 a0_0 l0_1 l0_2))) else (some ((⟨#[]⟩ : ByteArray), 20)))
theorem r2_Text.calls (k : Nat) (a0_0 : Bool) (A0_1 : Option Addr) (c0_1 : Nat) (l0_1 : List Int) (A0_2 : Option Addr) (c0_2 : Nat) (l0_2 : List Int) (r1 : ByteArray) (r2 : Int) (w : World) (hr0_1 : Kd.C (Kd.int .u32) w A0_1 l0_1.length l0_1) (hc0_1 : l0_1.length ≤ c0_1) (hr0_2 : Kd.C (Kd.int .u32) w A0_2 l0_2.length l0_2) (hc0_2 : l0_2.length ≤ c0_2) (h : r2_Text.f k a0_0 l0_1 l0_2 = some (r1, r2)) :
  Calls Try.prog 58 #[.agg #[.bool a0_0, .slice A0_1 l0_1.length c0_1, .slice A0_2 l0_2.length c0_2]] w fun e w' => e = .returned (.tuple #[.string r1, .int .i64 r2]) ∧ Below w.heap.size w w' := by
 have hu50 := Try.underlying50
 have HR0_1 := Yt.mk hr0_1
 have HC0_1 := Yt.mk hc0_1
 clear hr0_1 hc0_1
 have HR0_2 := Yt.mk hr0_2
 have HC0_2 := Yt.mk hc0_2
 clear hr0_2 hc0_2
 have HB := Yt.mk (Below.refl w.heap.size w)
 unfold r2_Text.f at h
 have H := h
 clear h
 replace H := Option.bind_eq_some_iff.mp H
 obtain ⟨t1332, A20, H⟩ := H
 try dsimp only at H
 have A2 := Yt.mk A20
 clear A20
 by_cases c3 : t1332 = true
 rotate_left
 ·replace c3 := Bool.eq_false_iff.mpr c3
  subst c3
  rw [if_neg (show ¬ (false = true) by decide)] at H
  simp only [Option.some.injEq, Prod.mk.injEq] at H
  obtain ⟨rfl, rfl⟩ := H
  go_enter Try.func58, Try.ntmps58
  go_wp2_with (first | ((with_reducible refine Yk (N := 1) rfl ?_); refine Yo ?hg (N := 1) ?hd (cs := #[.bool a0_0, .slice A0_1 l0_1.length c0_1, .slice A0_2 l0_2.length c0_2]) (t := 50) ?hr ?_; (case hd => rfl); (case hg => rfl); (case hr => exact Qa8); intro gb1331 hg w29 hbox hb; have BK1331 := Yt.mk (hbox); have GW1331 := Yt.mk ((by rw [hg]; exact (Zk (Qa0)) : w.heap.size ≤ gb1331)); have GE1331 := Yt.mk ((by rw [hg]; exact (Zk (Qa0)) : w.heap.size ≤ gb1331)); replace HB := Yt.mk (Zm (Qa0) hb); clear hb hbox hg; have hcz30_0 : w29.cell? ⟨gb1331, 0, none⟩ = some (.bool a0_0) := (Zl BK1331.out 0).trans rfl; have hcz30_1 : w29.cell? ⟨gb1331, 1, none⟩ = some (.slice A0_1 l0_1.length c0_1) := (Zl BK1331.out 1).trans rfl; have hcz30_2 : w29.cell? ⟨gb1331, 2, none⟩ = some (.slice A0_2 l0_2.length c0_2) := (Zl BK1331.out 2).trans rfl; have hfz30_0 := Zn BK1331.out 0; have hfz30_1 := Zn BK1331.out 1; have hfz30_2 := Zn BK1331.out 2) | ((with_reducible refine Zr (f := 52) rfl ?_); refine Yg (some 9) rfl rfl Try.func52 Qa7 rfl #[.agg #[.bool a0_0, .slice A0_1 l0_1.length c0_1, .slice A0_2 l0_2.length c0_2]] rfl Qa2 ?_; (with_reducible refine (r2_Form.calls k a0_0 _ _ l0_1 _ _ l0_2 false _ ?side1 ?side2 ?side3 ?side4 A2.out).mono ?_); (case side1 => exact Qe9 (Kd.Ys HR0_1.out HB.out)); (case side2 => exact HC0_1.out); (case side3 => exact Qe9 (Kd.Ys HR0_2.out HB.out)); (case side4 => exact HC0_2.out); rintro e w31 ⟨rfl, hb⟩; refine ⟨_, rfl, ?_⟩; replace BK1331 := Yt.mk (Zq (g := gb1331) (o := .cells #[.bool a0_0, .slice A0_1 l0_1.length c0_1, .slice A0_2 l0_2.length c0_2] 50 (0, 0)) (Qr12 BK1331.out) hb); replace HB := Yt.mk (Zm (Qa0) hb); (try clear hb)))
  go_ret2
  exact ⟨Qa4, Qa0⟩
 subst c3
 rw [if_pos rfl] at H
 replace H := Option.bind_eq_some_iff.mp H
 obtain ⟨⟨t1333, t1334⟩, A40, H⟩ := H
 try dsimp only at H
 have A4 := Yt.mk A40
 clear A40
 have HC5 := Yt.mk H
 clear H
 go_enter Try.func58, Try.ntmps58
 go_upto_if 18 with (first | ((with_reducible refine Yk (N := 1) rfl ?_); refine Yo ?hg (N := 1) ?hd (cs := #[.bool a0_0, .slice A0_1 l0_1.length c0_1, .slice A0_2 l0_2.length c0_2]) (t := 50) ?hr ?_; (case hd => rfl); (case hg => rfl); (case hr => exact Qa8); intro gb1331 hg w6 hbox hb; have BK1331 := Yt.mk (hbox); have GW1331 := Yt.mk ((by rw [hg]; exact (Zk (Qa0)) : w.heap.size ≤ gb1331)); have GE1331 := Yt.mk ((by rw [hg]; exact (Zk (Qa0)) : w.heap.size ≤ gb1331)); replace HB := Yt.mk (Zm (Qa0) hb); clear hb hbox hg; have hcz7_0 : w6.cell? ⟨gb1331, 0, none⟩ = some (.bool a0_0) := (Zl BK1331.out 0).trans rfl; have hcz7_1 : w6.cell? ⟨gb1331, 1, none⟩ = some (.slice A0_1 l0_1.length c0_1) := (Zl BK1331.out 1).trans rfl; have hcz7_2 : w6.cell? ⟨gb1331, 2, none⟩ = some (.slice A0_2 l0_2.length c0_2) := (Zl BK1331.out 2).trans rfl; have hfz7_0 := Zn BK1331.out 0; have hfz7_1 := Zn BK1331.out 1; have hfz7_2 := Zn BK1331.out 2) | ((with_reducible refine Zr (f := 52) rfl ?_); refine Yg (some 9) rfl rfl Try.func52 Qa7 rfl #[.agg #[.bool a0_0, .slice A0_1 l0_1.length c0_1, .slice A0_2 l0_2.length c0_2]] rfl Qa2 ?_; (with_reducible refine (r2_Form.calls k a0_0 _ _ l0_1 _ _ l0_2 true _ ?side1 ?side2 ?side3 ?side4 A2.out).mono ?_); (case side1 => exact Qe9 (Kd.Ys HR0_1.out HB.out)); (case side2 => exact HC0_1.out); (case side3 => exact Qe9 (Kd.Ys HR0_2.out HB.out)); (case side4 => exact HC0_2.out); rintro e w8 ⟨rfl, hb⟩; refine ⟨_, rfl, ?_⟩; replace BK1331 := Yt.mk (Zq (g := gb1331) (o := .cells #[.bool a0_0, .slice A0_1 l0_1.length c0_1, .slice A0_2 l0_2.length c0_2] 50 (0, 0)) (Qr12 BK1331.out) hb); replace HB := Yt.mk (Zm (Qa0) hb); (try clear hb); have hcz9_0 : w8.cell? ⟨gb1331, 0, none⟩ = some (.bool a0_0) := (Zl BK1331.out 0).trans rfl; have hcz9_1 : w8.cell? ⟨gb1331, 1, none⟩ = some (.slice A0_1 l0_1.length c0_1) := (Zl BK1331.out 1).trans rfl; have hcz9_2 : w8.cell? ⟨gb1331, 2, none⟩ = some (.slice A0_2 l0_2.length c0_2) := (Zl BK1331.out 2).trans rfl; have hfz9_0 := Zn BK1331.out 0; have hfz9_1 := Zn BK1331.out 1; have hfz9_2 := Zn BK1331.out 2) | ((with_reducible refine Zr (f := 30) rfl ?_); refine Yg (some 14) rfl rfl Try.func30 Qa7 rfl #[.slice A0_1 l0_1.length c0_1] rfl Qa2 ?_; (with_reducible refine (r1_Text.calls k _ _ l0_1 t1333 t1334 _ ?side1 ?side2 A4.out).mono ?_); (case side1 => exact Qe9 (Kd.Ys HR0_1.out HB.out)); (case side2 => exact HC0_1.out); rintro e w10 ⟨rfl, hb⟩; refine ⟨_, rfl, ?_⟩; replace BK1331 := Yt.mk (Zq (g := gb1331) (o := .cells #[.bool a0_0, .slice A0_1 l0_1.length c0_1, .slice A0_2 l0_2.length c0_2] 50 (0, 0)) (Qr12 BK1331.out) hb); replace HB := Yt.mk (Zm (Qa0) hb); (try clear hb); have hcz11_0 : w10.cell? ⟨gb1331, 0, none⟩ = some (.bool a0_0) := (Zl BK1331.out 0).trans rfl; have hcz11_1 : w10.cell? ⟨gb1331, 1, none⟩ = some (.slice A0_1 l0_1.length c0_1) := (Zl BK1331.out 1).trans rfl; have hcz11_2 : w10.cell? ⟨gb1331, 2, none⟩ = some (.slice A0_2 l0_2.length c0_2) := (Zl BK1331.out 2).trans rfl; have hfz11_0 := Zn BK1331.out 0; have hfz11_1 := Zn BK1331.out 1; have hfz11_2 := Zn BK1331.out 2))
 (try simp only [Act.put, List.setIfInBounds_toArray, List.set_cons_zero, List.set_cons_succ])
 go_cut [4] (fun v4 wc => ∃ (kq : Nat) (x4_4 : ByteArray), v4 = .string x4_4 ∧ Yt (r2_Text.j0 kq x4_4 a0_0 l0_1 l0_2 = some (r1, r2)) ∧ Yt (kq ≤ k) ∧ Yt (wc.heap[gb1331]? = some (.cells #[.bool a0_0, (.slice A0_1 l0_1.length c0_1), (.slice A0_2 l0_2.length c0_2)] 50 (0, 0))) ∧ Yt (Below w.heap.size w wc))
 case first =>
  have H := HC5.out
  clear HC5
  by_cases c12 : a0_0 = true
  rotate_left
  ·replace c12 := Bool.eq_false_iff.mpr c12
   subst c12
   rw [if_neg (show ¬ (false = true) by decide)] at H
   have H' := Yt.mk H
   clear H
   go_wp2
   go_meet
   case rel => exact ⟨_, (t1333), Qa5, H', ⟨by first | omega | exact Nat.le_refl _⟩, ⟨Qr12 BK1331.out⟩, ⟨Qa0⟩⟩
  subst c12
  rw [if_pos rfl] at H
  by_cases c13 : 1 + t1333.size ≤ 9223372036854775807
  rotate_left
  ·rw [if_neg c13] at H
   exact absurd H (by simp)
  rw [if_pos c13] at H
  have c13b0 := eq_true c13
  have c13b1 : decide (1 + t1333.size ≤ 9223372036854775807) = true := decide_eq_true c13
  try have c13b2 : (9223372036854775807 < 1 + t1333.size) = False := eq_false (Nat.not_lt.2 c13)
  have H' := Yt.mk H
  clear H
  go_wp2
  go_meet
  case rel => exact ⟨_, ((⟨#[45]⟩ : ByteArray) ++ t1333), Qa5, H', ⟨by first | omega | exact Nat.le_refl _⟩, ⟨Qr12 BK1331.out⟩, ⟨Qa0⟩⟩
 case rest =>
  clear HC5
  try clear c1; try clear p2; try clear c3; try clear c5; try clear c12; try clear c13; try clear c13b0; try clear c13b1; try clear c13b2; try clear hcz11_0; try clear hcz11_1; try clear hcz11_2; try clear hcz7_0; try clear hcz7_1; try clear hcz7_2; try clear hcz9_0; try clear hcz9_1; try clear hcz9_2; try clear hfz11_0; try clear hfz11_1; try clear hfz11_2; try clear hfz7_0; try clear hfz7_1; try clear hfz7_2; try clear hfz9_0; try clear hfz9_1; try clear hfz9_2
  obtain ⟨kq, x4_4, rfl, HA, HJ4, BK1331, HB⟩ := hcut
  cases kq with
  | zero => exact absurd HA.out (by simp [r2_Text.j0])
  | succ kj4 =>
   have H := HA.out
   clear HA
   simp only [r2_Text.j0] at H
   obtain ⟨y1335, hy1335⟩ : ∃ y_ : List Int, y_ = (([1] : List Int)) := ⟨_, rfl⟩
   replace H : ((r1_Same.f kj4 l0_2 y1335).bind fun t1338 => (if t1338 = true then (some (x4_4, 0)) else ((r1_Text.f kj4 l0_2).bind fun bt1339 => (if x4_4.size + 1 ≤ 9223372036854775807 then (if (x4_4 ++ (⟨#[47]⟩ : ByteArray)).size + bt1339.1.size ≤ 9223372036854775807 then (some ((x4_4 ++ (⟨#[47]⟩ : ByteArray)) ++ bt1339.1, 0)) else (none)) else (none))))) = some (r1, r2) := Qh hy1335 H
   have Ny1335 := Yt.mk hy1335
   clear hy1335
   replace H := Option.bind_eq_some_iff.mp H
   obtain ⟨t1338, A140, H⟩ := H
   try dsimp only at H
   have A14 := Yt.mk A140
   clear A140
   by_cases c15 : t1338 = true
   ·subst c15
    rw [if_pos rfl] at H
    simp only [Option.some.injEq, Prod.mk.injEq] at H
    obtain ⟨rfl, rfl⟩ := H
    have hcz16_0 : wc.cell? ⟨gb1331, 0, none⟩ = some (.bool a0_0) := (Zl BK1331.out 0).trans rfl
    have hcz16_1 : wc.cell? ⟨gb1331, 1, none⟩ = some (.slice A0_1 l0_1.length c0_1) := (Zl BK1331.out 1).trans rfl
    have hcz16_2 : wc.cell? ⟨gb1331, 2, none⟩ = some (.slice A0_2 l0_2.length c0_2) := (Zl BK1331.out 2).trans rfl
    have hfz16_0 := Zn BK1331.out 0
    have hfz16_1 := Zn BK1331.out 1
    have hfz16_2 := Zn BK1331.out 2
    go_wp2_with (first | ((with_reducible refine Yk (N := 23) rfl ?_); refine Kd.R_lit (Kd.int .u32) _ 47 ?hg (N := 23) ?hd (xs := ([1] : List Int)) (inner := [.int .u32 1]) (ok := fun _ => True) (okp := fun _ => True) ?hr ?hp (fun _ hk => hk) trivial (Below.refl _ _) (Nat.le_refl _) (by simp) ?_; (case hd => rfl); (case hg => rfl); (case hr => exact Qa8); (case hp => exact (Reps.one (show Kd.M (Kd.int .u32) _ _ _ 1 [.int .u32 1] from rfl) (Reps.none _ _))); intro v1336 w17 ho18 hb hg_ hnew_; clear hg_ hnew_; (first | rw [← Ny1335.out] at ho18 | (simp only [Int.reduceToNat] at ho18; rw [← Ny1335.out] at ho18)); have HO1337 := Yt.mk (Kd.Yb ho18 (Zk (Qa0))); replace BK1331 := Yt.mk (Zq (g := gb1331) (o := .cells #[.bool a0_0, .slice A0_1 l0_1.length c0_1, .slice A0_2 l0_2.length c0_2] 50 (0, 0)) (Qr12 BK1331.out) hb); replace HB := Yt.mk (Zm (Qa0) hb); clear hb ho18; obtain ⟨Ao19, co19, eo19⟩ := Kd.Zx HO1337.out; subst eo19) | ((with_reducible refine Zr (f := 25) rfl ?_); refine Yg (some 24) rfl rfl Try.func25 Qa7 rfl #[.slice A0_2 l0_2.length c0_2, .slice Ao19 y1335.length co19] rfl Qa2 ?_; (with_reducible refine (r1_Same.calls kj4 _ _ l0_2 _ _ y1335 true _ ?side1 ?side2 ?side3 ?side4 A14.out).mono ?_); (case side1 => exact Qe9 (Kd.Ys HR0_2.out HB.out)); (case side2 => exact HC0_2.out); (case side3 => exact Qe9 (Kd.Zs HO1337.out).2.2); (case side4 => exact (Kd.Zs HO1337.out).2.1); rintro e w' ⟨rfl, ⟨nd, rfl⟩⟩; refine ⟨_, rfl, ?_⟩))
    go_ret2
    exact ⟨Qa4, Qa0⟩
   replace c15 := Bool.eq_false_iff.mpr c15
   subst c15
   rw [if_neg (show ¬ (false = true) by decide)] at H
   replace H := Option.bind_eq_some_iff.mp H
   obtain ⟨⟨t1339, t1340⟩, A200, H⟩ := H
   try dsimp only at H
   have A20 := Yt.mk A200
   clear A200
   by_cases c21 : x4_4.size + 1 ≤ 9223372036854775807
   rotate_left
   ·rw [if_neg c21] at H
    exact absurd H (by simp)
   rw [if_pos c21] at H
   have c21b0 := eq_true c21
   have c21b1 : decide (x4_4.size + 1 ≤ 9223372036854775807) = true := decide_eq_true c21
   try have c21b2 : (9223372036854775807 < x4_4.size + 1) = False := eq_false (Nat.not_lt.2 c21)
   by_cases c22 : (x4_4 ++ (⟨#[47]⟩ : ByteArray)).size + t1339.size ≤ 9223372036854775807
   rotate_left
   ·rw [if_neg c22] at H
    exact absurd H (by simp)
   rw [if_pos c22] at H
   have c22b0 := eq_true c22
   have c22b1 : decide ((x4_4 ++ (⟨#[47]⟩ : ByteArray)).size + t1339.size ≤ 9223372036854775807) = true := decide_eq_true c22
   try have c22b2 : (9223372036854775807 < (x4_4 ++ (⟨#[47]⟩ : ByteArray)).size + t1339.size) = False := eq_false (Nat.not_lt.2 c22)
   simp only [Option.some.injEq, Prod.mk.injEq] at H
   obtain ⟨rfl, rfl⟩ := H
   have hcz23_0 : wc.cell? ⟨gb1331, 0, none⟩ = some (.bool a0_0) := (Zl BK1331.out 0).trans rfl
   have hcz23_1 : wc.cell? ⟨gb1331, 1, none⟩ = some (.slice A0_1 l0_1.length c0_1) := (Zl BK1331.out 1).trans rfl
   have hcz23_2 : wc.cell? ⟨gb1331, 2, none⟩ = some (.slice A0_2 l0_2.length c0_2) := (Zl BK1331.out 2).trans rfl
   have hfz23_0 := Zn BK1331.out 0
   have hfz23_1 := Zn BK1331.out 1
   have hfz23_2 := Zn BK1331.out 2
   go_wp2_with (first | ((with_reducible refine Yk (N := 23) rfl ?_); refine Kd.R_lit (Kd.int .u32) _ 47 ?hg (N := 23) ?hd (xs := ([1] : List Int)) (inner := [.int .u32 1]) (ok := fun _ => True) (okp := fun _ => True) ?hr ?hp (fun _ hk => hk) trivial (Below.refl _ _) (Nat.le_refl _) (by simp) ?_; (case hd => rfl); (case hg => rfl); (case hr => exact Qa8); (case hp => exact (Reps.one (show Kd.M (Kd.int .u32) _ _ _ 1 [.int .u32 1] from rfl) (Reps.none _ _))); intro v1336 w24 ho25 hb hg_ hnew_; clear hg_ hnew_; (first | rw [← Ny1335.out] at ho25 | (simp only [Int.reduceToNat] at ho25; rw [← Ny1335.out] at ho25)); have HO1337 := Yt.mk (Kd.Yb ho25 (Zk (Qa0))); replace BK1331 := Yt.mk (Zq (g := gb1331) (o := .cells #[.bool a0_0, .slice A0_1 l0_1.length c0_1, .slice A0_2 l0_2.length c0_2] 50 (0, 0)) (Qr12 BK1331.out) hb); replace HB := Yt.mk (Zm (Qa0) hb); clear hb ho25; obtain ⟨Ao26, co26, eo26⟩ := Kd.Zx HO1337.out; subst eo26) | ((with_reducible refine Zr (f := 25) rfl ?_); refine Yg (some 24) rfl rfl Try.func25 Qa7 rfl #[.slice A0_2 l0_2.length c0_2, .slice Ao26 y1335.length co26] rfl Qa2 ?_; (with_reducible refine (r1_Same.calls kj4 _ _ l0_2 _ _ y1335 false _ ?side1 ?side2 ?side3 ?side4 A14.out).mono ?_); (case side1 => exact Qe9 (Kd.Ys HR0_2.out HB.out)); (case side2 => exact HC0_2.out); (case side3 => exact Qe9 (Kd.Zs HO1337.out).2.2); (case side4 => exact (Kd.Zs HO1337.out).2.1); rintro e w' ⟨rfl, ⟨nd, rfl⟩⟩; refine ⟨_, rfl, ?_⟩; have hcz27_0 : w24.cell? ⟨gb1331, 0, none⟩ = some (.bool a0_0) := (Zl BK1331.out 0).trans rfl; have hcz27_1 : w24.cell? ⟨gb1331, 1, none⟩ = some (.slice A0_1 l0_1.length c0_1) := (Zl BK1331.out 1).trans rfl; have hcz27_2 : w24.cell? ⟨gb1331, 2, none⟩ = some (.slice A0_2 l0_2.length c0_2) := (Zl BK1331.out 2).trans rfl; have hfz27_0 := Zn BK1331.out 0; have hfz27_1 := Zn BK1331.out 1; have hfz27_2 := Zn BK1331.out 2) | ((with_reducible refine Zr (f := 30) rfl ?_); refine Yg (some 29) rfl rfl Try.func30 Qa7 rfl #[.slice A0_2 l0_2.length c0_2] rfl Qa2 ?_; (with_reducible refine (r1_Text.calls kj4 _ _ l0_2 t1339 t1340 _ ?side1 ?side2 A20.out).mono ?_); (case side1 => repeat (first | exact (Kd.Ys HR0_2.out (Qa0)) | (with_reducible refine Kd.Zu ?_ _) | (with_reducible refine Kd.Zt ?_ _) | (with_reducible refine Kd.Yc ?_))); (case side2 => exact HC0_2.out); rintro e w28 ⟨rfl, hb⟩; refine ⟨_, rfl, ?_⟩; replace HO1337 := Yt.mk (Kd.Yd (Qr1 HO1337.out) hb); replace BK1331 := Yt.mk (Zq (g := gb1331) (o := .cells #[.bool a0_0, .slice A0_1 l0_1.length c0_1, .slice A0_2 l0_2.length c0_2] 50 (0, 0)) (Qr12 BK1331.out) hb); replace HB := Yt.mk (Zm (Qa0) hb); (try clear hb)))
   go_ret2
   exact ⟨Qa4, Qa0⟩
def r1_Bits.l0 : Nat → Int → Int → Option (Int)
 | 0, _, _ => none
 | k + 1, x4, x5 => if x5 > 0 then (r1_Bits.l0 k (wrap64 (x4 + 1)) ((Int.tdiv x5 2) % 4294967296)) else (some x4)
def r1_Bits.f (k : Nat) (l0 : List Int) : Option (Int) := (r1_Trim.f k l0).bind fun t445 => (if (t445.length : Int) = 0 then (some 0) else (if 0 ≤ (wrap64 ((t445.length : Int) - 1)) then (if (wrap64 ((t445.length : Int) - 1)) < (t445.length : Int) then (r1_Bits.l0 k (wrap64 (32 * (wrap64 ((t445.length : Int) - 1)))) (rd t445 (wrap64 ((t445.length : Int) - 1)))) else (none)) else (none)))
theorem r1_Bits.calls (k : Nat) (A0 : Option Addr) (c0 : Nat) (l0 : List Int) (r : Int) (w : World) (hr0 : Kd.C (Kd.int .u32) w A0 l0.length l0) (hc0 : l0.length ≤ c0) (h : r1_Bits.f k l0 = some r) :
  Calls Try.prog 27 #[.slice A0 l0.length c0] w fun e w' => e = .returned (.int .i64 r) ∧ Below w.heap.size w w' := by
 have HR0 := Yt.mk hr0
 have HC0 := Yt.mk hc0
 clear hr0 hc0
 have HB := Yt.mk (Below.refl w.heap.size w)
 unfold r1_Bits.f at h
 have H := h
 clear h
 replace H := Option.bind_eq_some_iff.mp H
 obtain ⟨t445, A20, H⟩ := H
 try dsimp only at H
 have A2 := Yt.mk A20
 clear A20
 by_cases c3 : (t445.length : Int) = 0
 ·rw [if_pos c3] at H
  have c3b0 : ((t445.length : Int) == 0) = true := beq_iff_eq.mpr c3
  have c3b1 : ((t445.length : Int) != 0) = false := bne_eq_false_iff_eq.mpr c3
  clear c3
  obtain rfl := Option.some.inj H
  go_enter Try.func27, Try.ntmps27
  go_wp2_with (first | ((with_reducible refine Zr (f := 46) rfl ?_); refine Yg (some 7) rfl rfl Try.func46 Qa7 rfl #[.slice A0 l0.length c0] rfl Qa2 ?_; (with_reducible refine (r1_Trim.calls k _ _ l0 t445 _ ?side1 ?side2 A2.out).mono ?_); (case side1 => exact Qe9 HR0.out); (case side2 => exact HC0.out); rintro e w4 ⟨v446, rfl, ho0, hb⟩; refine ⟨_, rfl, ?_⟩; have HO447 := Yt.mk (Kd.Yb ho0 (Zk (Qa0))); replace HB := Yt.mk (Zm (Qa0) hb); (try clear hb); (try clear ho0); obtain ⟨Ao5, co5, eo5⟩ := Kd.Zx HO447.out; subst eo5))
  go_ret
  exact ⟨Qa4, Qa0⟩
 rw [if_neg c3] at H
 have c3b0 : ((t445.length : Int) == 0) = false := beq_eq_false_iff_ne.mpr c3
 have c3b1 : ((t445.length : Int) != 0) = true := bne_iff_ne.mpr c3
 have c3b2 : ¬ (t445 = []) := fun h_ => c3 (by rw [h_]; rfl)
 obtain ⟨ji6, hji6⟩ : ∃ j_ : Int, (wrap64 ((t445.length : Int) - 1)) = j_ := ⟨_, rfl⟩
 replace H : (if 0 ≤ (ji6) then (if (ji6) < (t445.length : Int) then (r1_Bits.l0 k (wrap64 (32 * (ji6))) (rd t445 (ji6))) else (none)) else (none)) = some r := by first | (rw [hji6] at H; exact H) | (simp only [hji6] at H ⊢; exact H)
 (try rw [hji6] at A2)
 have hji6w : (IntKind.i64.wrap ((t445.length : Int) - 1)) = ji6 := (Yi _).trans hji6
 by_cases c7 : 0 ≤ (ji6)
 rotate_left
 ·rw [if_neg c7] at H
  exact absurd H (by simp)
 rw [if_pos c7] at H
 have c7b0 : decide (0 ≤ (ji6)) = true := decide_eq_true c7
 clear c7
 by_cases c8 : (ji6) < (t445.length : Int)
 rotate_left
 ·rw [if_neg c8] at H
  exact absurd H (by simp)
 rw [if_pos c8] at H
 have c8b0 : decide ((ji6) < (t445.length : Int)) = true := decide_eq_true c8
 clear c8
 have H' := Yt.mk H
 clear H
 go_enter Try.func27, Try.ntmps27
 go_wp2_with (first | ((with_reducible refine Zr (f := 46) rfl ?_); refine Yg (some 7) rfl rfl Try.func46 Qa7 rfl #[.slice A0 l0.length c0] rfl Qa2 ?_; (with_reducible refine (r1_Trim.calls k _ _ l0 t445 _ ?side1 ?side2 A2.out).mono ?_); (case side1 => exact Qe9 HR0.out); (case side2 => exact HC0.out); rintro e w9 ⟨v446, rfl, ho0, hb⟩; refine ⟨_, rfl, ?_⟩; have HO447 := Yt.mk (Kd.Yb ho0 (Zk (Qa0))); replace HB := Yt.mk (Zm (Qa0) hb); (try clear hb); (try clear ho0); obtain ⟨Ao10, co10, eo10⟩ := Kd.Zx HO447.out; subst eo10; have p448 : 0 ≤ ((ji6) : Int) := Qd; have q448 : (ji6) < (t445.length : Int) := Qd; obtain ⟨ad448, e448, hx448_0⟩ := Kd.at_int (Kd.Zs HO447.out).2.2 (ji6) p448 q448; cases e448; replace p448 := eq_true p448; replace q448 := eq_true q448))
 go_loopg [4, 5] k (fun kq v4 v5 w' => ∃ (x4_1 : Int) (x5_1 : Int), v4 = .int .i64 x4_1 ∧ v5 = .int .u32 x5_1 ∧ Yt (r1_Bits.l0 kq x4_1 x5_1 = some r) ∧ Yt (kq ≤ k) ∧ Yt (Below w.heap.size w w'))
 case atStart => exact ⟨(wrap64 (32 * (ji6))), (rd t445 (ji6)), (by first | rfl | (simp; done) | (simp only [← hji6] <;> (first | rfl | simp)) | (simp [*]; done)), (by first | rfl | (simp; done) | (simp only [← hji6] <;> (first | rfl | simp)) | (simp [*]; done)), H', ⟨Nat.le_refl _⟩, ⟨Qa0⟩⟩
 case round =>
  clear H'
  try clear c2; try clear p2; try clear c3; try clear c3b0; try clear c3b1; try clear c3b2; try clear c4; try clear p4; try clear q4; try clear hx4; try clear p6; try clear c7; try clear c7b0; try clear c8; try clear c8b0; try clear hx448_0; try clear p448; try clear q448
  obtain ⟨x4_1, x5_1, rfl, rfl, HA, HK1, HB⟩ := hrel
  cases gk with
  | zero => exact absurd HA.out (by simp [r1_Bits.l0])
  | succ k1 =>
   have H := HA.out
   clear HA
   simp only [r1_Bits.l0] at H
   by_cases c11 : x5_1 > 0
   rotate_left
   ·rw [if_neg c11] at H
    have c11b0 : decide (0 < x5_1) = false := decide_eq_false c11
    clear c11
    obtain rfl := Option.some.inj H
    go_wp2
    go_ret
    exact ⟨by first | rfl | (simp [Zp, Zo] <;> rfl) | (simp only [← hji6]; first | rfl | (simp [Zp, Zo] <;> rfl)) | (simp [*, Zp, Zo] <;> rfl), Qa0⟩
   rw [if_pos c11] at H
   have c11b0 : decide (0 < x5_1) = true := decide_eq_true c11
   clear c11
   have H' := Yt.mk H
   clear H
   go_wp2
   go_roundg k1
   case measure => have := HK1.out; omega
   case rel => exact ⟨(wrap64 (x4_1 + 1)), ((Int.tdiv x5_1 2) % 4294967296), Qa5, Qa5, H', ⟨by have := HK1.out; omega⟩, ⟨Qa0⟩⟩
mutual
def r1_Divide.l0 : Nat → List Int → List Int → List Int → List Int → Int → Option (List Int × List Int)
 | 0, _, _, _, _, _ => none
 | k + 1, x0, x1, x7, x8, x9 => if x9 ≥ 0 then ((r1_Shl.f k x8 1).bind fun t516 => ((r1_Bit.f x0 x9).bind fun t519 => (if t519 = true then ((r1_Plus.f k t516 (([1] : List Int))).bind fun t523 => (r1_Divide.j1 k x0 x1 x7 t523 x9)) else (r1_Divide.j1 k x0 x1 x7 t516 x9)))) else ((r1_Trim.f k x7).bind fun t513 => (some (t513, x8)))
def r1_Divide.j1 : Nat → List Int → List Int → List Int → List Int → Int → Option (List Int × List Int)
 | 0, _, _, _, _, _ => none
 | k + 1, x0, x1, x7, x8, x9 => (r1_Cmp.f k x8 x1).bind fun t526 => (if t526 ≥ 0 then ((r1_Minus.f k x8 x1).bind fun t527 => (if 0 ≤ (wrap64 (Int.tdiv x9 32)) then (if (wrap64 (Int.tdiv x9 32)) < (x7.length : Int) then (if 0 ≤ (IntKind.u64.wrap (Int.tmod x9 32)) then (r1_Divide.l0 k x0 x1 (x7.set ((wrap64 (Int.tdiv x9 32)) : Int).toNat (((rd x7 (wrap64 (Int.tdiv x9 32))) + (shl .u32 1 (IntKind.u64.wrap (Int.tmod x9 32)))) % 4294967296)) t527 (wrap64 (x9 - 1))) else (none)) else (none)) else (none))) else (r1_Divide.l0 k x0 x1 x7 x8 (wrap64 (x9 - 1))))
end
def r1_Divide.f (k : Nat) (l0 : List Int) (l1 : List Int) : Option (List Int × List Int) := (r1_Bits.f k l0).bind fun t509 => (if 0 ≤ (wrap64 ((wrap64 (Int.tdiv t509 32)) + 1)) then (if (wrap64 ((wrap64 (Int.tdiv t509 32)) + 1) : Int).toNat ≤ 70368744177664 then (r1_Divide.l0 k l0 l1 (List.replicate (wrap64 ((wrap64 (Int.tdiv t509 32)) + 1) : Int).toNat 0) ([] : List Int) (wrap64 (t509 - 1))) else (none)) else (none))
theorem r1_Divide.calls (k : Nat) (A0 : Option Addr) (c0 : Nat) (l0 : List Int) (A1 : Option Addr) (c1 : Nat) (l1 : List Int) (r1 : List Int) (r2 : List Int) (w : World) (hr0 : Kd.C (Kd.int .u32) w A0 l0.length l0) (hc0 : l0.length ≤ c0) (hr1 : Kd.C (Kd.int .u32) w A1 l1.length l1) (hc1 : l1.length ≤ c1) (h : r1_Divide.f k l0 l1 = some (r1, r2)) :
  Calls Try.prog 28 #[.slice A0 l0.length c0, .slice A1 l1.length c1] w fun e w' => ∃ v0_ v1_ : Value, e = .returned (.tuple #[v0_, v1_]) ∧ Kd.R (Kd.int .u32) 47 w' w.heap.size (fun k_ => some k_ ≠ (v1_ : Value).ownBlock) v0_ r1 ∧ Kd.R (Kd.int .u32) 47 w' w.heap.size (fun k_ => some k_ ≠ (v0_ : Value).ownBlock) v1_ r2 ∧ Below w.heap.size w w' := by
 have HR0 := Yt.mk hr0
 have HC0 := Yt.mk hc0
 clear hr0 hc0
 have HR1 := Yt.mk hr1
 have HC1 := Yt.mk hc1
 clear hr1 hc1
 have HB := Yt.mk (Below.refl w.heap.size w)
 unfold r1_Divide.f at h
 have H := h
 clear h
 replace H := Option.bind_eq_some_iff.mp H
 obtain ⟨t509, A30, H⟩ := H
 try dsimp only at H
 have A3 := Yt.mk A30
 clear A30
 obtain ⟨ji4, hji4⟩ : ∃ j_ : Int, (wrap64 ((wrap64 (Int.tdiv t509 32)) + 1)) = j_ := ⟨_, rfl⟩
 replace H : (if 0 ≤ (ji4) then (if (ji4 : Int).toNat ≤ 70368744177664 then (r1_Divide.l0 k l0 l1 (List.replicate (ji4 : Int).toNat 0) ([] : List Int) (wrap64 (t509 - 1))) else (none)) else (none)) = some (r1, r2) := by first | (rw [hji4] at H; exact H) | (simp only [hji4] at H ⊢; exact H)
 (try rw [hji4] at A3)
 have hji4w : (IntKind.i64.wrap ((wrap64 (Int.tdiv t509 32)) + 1)) = ji4 := (Yi _).trans hji4
 by_cases c5 : 0 ≤ (ji4)
 rotate_left
 ·rw [if_neg c5] at H
  exact absurd H (by simp)
 rw [if_pos c5] at H
 have c5b0 := eq_true c5
 have c5b1 : decide (0 ≤ (ji4)) = true := decide_eq_true c5
 clear c5
 by_cases c6 : (ji4 : Int).toNat ≤ 70368744177664
 rotate_left
 ·rw [if_neg c6] at H
  exact absurd H (by simp)
 rw [if_pos c6] at H
 have c6b0 := eq_true c6
 have c6b1 : decide ((ji4 : Int).toNat ≤ 70368744177664) = true := decide_eq_true c6
 clear c6
 obtain ⟨y510, hy510⟩ : ∃ y_ : List Int, y_ = (List.replicate (ji4 : Int).toNat 0) := ⟨_, rfl⟩
 replace H : (r1_Divide.l0 k l0 l1 y510 ([] : List Int) (wrap64 (t509 - 1))) = some (r1, r2) := Qh hy510 H
 have Ny510 := Yt.mk hy510
 clear hy510
 have H' := Yt.mk H
 clear H
 go_enter Try.func28, Try.ntmps28
 go_wp2_with (first | ((with_reducible refine Zr (f := 27) rfl ?_); refine Yg (some 11) rfl rfl Try.func27 Qa7 rfl #[.slice A0 l0.length c0] rfl Qa2 ?_; (with_reducible refine (r1_Bits.calls k _ _ l0 t509 _ ?side1 ?side2 A3.out).mono ?_); (case side1 => exact Qe9 HR0.out); (case side2 => exact HC0.out); rintro e w7 ⟨rfl, hb⟩; refine ⟨_, rfl, ?_⟩; replace HB := Yt.mk (Zm (Qa0) hb); (try clear hb)) | ((with_reducible refine Yk (N := 15) rfl ?_); refine Kd.R_make (Kd.int .u32) _ 47 rfl (N := 15) rfl 22 _ _ rfl ji4 rfl rfl Try.underlying22 (.int .u32 0) 4 info47 rfl (by decide) (by omega) 0 (ok := fun _ => True) (okp := fun _ => True) rfl (fun _ hk => hk) trivial (Qd) (Nat.le_trans (Nat.mul_le_mul_right _ (Qd : ji4.toNat ≤ 70368744177664)) (by omega)) (Below.refl _ _) (Nat.le_refl _) ?_; intro v511 w8 ho9 hb hg_ hnew_; clear hg_ hnew_; (first | rw [← Ny510.out] at ho9 | (simp only [Int.reduceToNat] at ho9; rw [← Ny510.out] at ho9)); have HO512 := Yt.mk (Kd.Yb ho9 (Zk (Qa0))); replace HB := Yt.mk (Zm (Qa0) hb); clear hb ho9))
 go_loopg [8, 9] k (fun kq v8 v9 w' => ∃ (x7_1 : List Int) (x8_1 : List Int) (x9_1 : Int), v9 = .int .i64 x9_1 ∧ Yt (r1_Divide.l0 kq l0 l1 x7_1 x8_1 x9_1 = some (r1, r2)) ∧ Yt (kq ≤ k) ∧ Yt (Kd.R (Kd.int .u32) 47 w' w.heap.size (fun k_ => some k_ ≠ (v8 : Value).ownBlock) v511 x7_1) ∧ Yt (Kd.R (Kd.int .u32) 47 w' w.heap.size (fun k_ => some k_ ≠ (v511 : Value).ownBlock) v8 x8_1) ∧ Yt (Below w.heap.size w w'))
 case atStart => exact ⟨(y510), (([] : List Int)), (wrap64 (t509 - 1)), Qa5, H', ⟨Nat.le_refl _⟩, ⟨by (with_reducible repeat (first | apply Kd.Zf | apply Kd.Ze | apply Kd.Zj)); exact Kd.Zv HO512.out (fun _ hk => (by simp [Value.ownBlock]))⟩, ⟨by first | exact Kd.R_nil _ _ _ _ _ | exact Kd.N_nil _ _ _ _ _ | exact Kd.V_nil _ _ _ _ _ | exact Kd.Q_nil _ _ _ _ _ | exact Kd.S_nil _ _ _ _ _⟩, ⟨Qa0⟩⟩
 case round =>
  clear H'
  try clear c1; try clear c2; try clear p2; try clear c5; try clear c5b0; try clear c5b1; try clear c6; try clear c6b0; try clear c6b1; try clear p6
  obtain ⟨x7_1, x8_1, x9_1, rfl, HA, HK1, HO_7, HO_8, HB⟩ := hrel
  cases gk with
  | zero => exact absurd HA.out (by simp [r1_Divide.l0])
  | succ k1 =>
   have H := HA.out
   clear HA
   simp only [r1_Divide.l0] at H
   by_cases c10 : x9_1 ≥ 0
   rotate_left
   ·rw [if_neg c10] at H
    have c10b0 : decide (0 ≤ x9_1) = false := decide_eq_false c10
    clear c10
    replace H := Option.bind_eq_some_iff.mp H
    obtain ⟨t513, A400, H⟩ := H
    replace H : (some (t513, x8_1)) = some (r1, r2) := H
    have A40 := Yt.mk A400
    clear A400
    simp only [Option.some.injEq, Prod.mk.injEq] at H
    obtain ⟨rfl, rfl⟩ := H
    obtain ⟨Ao41, co41, eo41⟩ := Kd.Zx HO_7.out
    subst eo41
    go_wp2_with (first | ((with_reducible refine Zr (f := 46) rfl ?_); refine Yg (some 49) rfl rfl Try.func46 Qa7 rfl #[.slice Ao41 x7_1.length co41] rfl Qa2 ?_; (with_reducible refine (r1_Trim.calls k1 _ _ x7_1 t513 _ ?side1 ?side2 A40.out).mono ?_); (case side1 => exact Qe9 (Kd.Zs HO_7.out).2.2); (case side2 => exact (Kd.Zs HO_7.out).2.1); rintro e w42 ⟨v514, rfl, ho0, hb⟩; refine ⟨_, rfl, ?_⟩; have HO515 := Yt.mk (Kd.Yb (Kd.Ya (Kd.Ya ho0 (Kd.R_lt (Qr1 HO_7.out))) (Kd.R_lt (Qr1 HO_8.out))) (Zk (Qa0))); replace HO_7 := Yt.mk (Kd.Yf (Qr1 HO_7.out) (Kd.Zw ho0) hb); replace HO_8 := Yt.mk (Kd.Yf (Qr1 HO_8.out) (Kd.Zw ho0) hb); replace HB := Yt.mk (Zm (Qa0) hb); (try clear hb); (try clear ho0)))
    go_ret2
    exact ⟨_, _, by first | rfl | (simp [Zp, Zo] <;> rfl) | (simp only [← hji4]; first | rfl | (simp [Zp, Zo] <;> rfl)) | (simp [*, Zp, Zo] <;> rfl), by (with_reducible repeat (first | apply Kd.Zf | apply Kd.Ze | apply Kd.Zj)); exact Kd.Zv HO515.out (fun _ hk => hk.2), by (with_reducible repeat (first | apply Kd.Zf | apply Kd.Ze | apply Kd.Zj)); exact Kd.Zv HO_8.out (fun _ hk => hk.2), Qa0⟩
   rw [if_pos c10] at H
   have c10b0 : decide (0 ≤ x9_1) = true := decide_eq_true c10
   clear c10
   replace H := Option.bind_eq_some_iff.mp H
   obtain ⟨t516, A110, H⟩ := H
   try dsimp only at H
   have A11 := Yt.mk A110
   clear A110
   replace H := Option.bind_eq_some_iff.mp H
   obtain ⟨t519, A120, H⟩ := H
   try dsimp only at H
   have A12 := Yt.mk A120
   clear A120
   have HC13 := Yt.mk H
   clear H
   obtain ⟨Ao14, co14, eo14⟩ := Kd.Zx HO_8.out
   subst eo14
   go_upto_if 26 with (first | ((with_reducible refine Zr (f := 84) rfl ?_); refine Yg (some 23) rfl rfl Try.func84 Qa7 rfl #[.slice Ao14 x8_1.length co14, .int .i64 1] rfl Qa2 ?_; (with_reducible refine (r1_Shl.calls k1 _ _ x8_1 1 t516 _ ?side1 ?side2 A11.out).mono ?_); (case side1 => exact Qe9 (Kd.Zs HO_8.out).2.2); (case side2 => exact (Kd.Zs HO_8.out).2.1); rintro e w15 ⟨v517, rfl, ho0, hb⟩; refine ⟨_, rfl, ?_⟩; have HO518 := Yt.mk (Kd.Yb (Kd.Ya (Kd.Ya ho0 (Kd.R_lt (Qr1 HO_7.out))) (Kd.R_lt (Qr1 HO_8.out))) (Zk (Qa0))); replace HO_7 := Yt.mk (Kd.Yf (Qr1 HO_7.out) (Kd.Zw ho0) hb); replace HO_8 := Yt.mk (Kd.Yf (Qr1 HO_8.out) (Kd.Zw ho0) hb); replace HB := Yt.mk (Zm (Qa0) hb); (try clear hb); (try clear ho0)) | ((with_reducible refine Zr (f := 85) rfl ?_); refine Yg (some 26) rfl rfl Try.func85 Qa7 rfl #[.slice A0 l0.length c0, .int .i64 x9_1] rfl Qa2 ?_; (with_reducible refine (r1_Bit.calls _ _ l0 x9_1 t519 _ ?side1 ?side2 A12.out).mono ?_); (case side1 => exact Qe9 (Kd.Ys HR0.out HB.out)); (case side2 => exact HC0.out); rintro e w' ⟨rfl, ⟨nd, rfl⟩⟩; refine ⟨_, rfl, ?_⟩))
   (try simp only [Act.put, List.setIfInBounds_toArray, List.set_cons_zero, List.set_cons_succ])
   go_cut [8] (fun v8 wc => ∃ (kq : Nat) (x8_12 : List Int), Yt (r1_Divide.j1 kq l0 l1 x7_1 x8_12 x9_1 = some (r1, r2)) ∧ Yt (kq ≤ k1) ∧ Yt (Kd.R (Kd.int .u32) 47 wc w.heap.size (fun k_ => some k_ ≠ (v8 : Value).ownBlock) v511 x7_1) ∧ Yt (Kd.R (Kd.int .u32) 47 wc w.heap.size (fun k_ => some k_ ≠ (v511 : Value).ownBlock) v8 x8_12) ∧ Yt (Below w.heap.size w wc))
   case first =>
    have H := HC13.out
    clear HC13
    by_cases c16 : t519 = true
    rotate_left
    ·replace c16 := Bool.eq_false_iff.mpr c16
     subst c16
     rw [if_neg (show ¬ (false = true) by decide)] at H
     have H' := Yt.mk H
     clear H
     go_wp2
     go_meet
     case rel => exact ⟨_, (t516), H', ⟨by have := HK1.out; first | omega | exact Nat.le_refl _⟩, ⟨by (with_reducible repeat (first | apply Kd.Zf | apply Kd.Ze | apply Kd.Zj)); exact Kd.Zv HO_7.out (fun _ hk => hk.2)⟩, ⟨by (with_reducible repeat (first | apply Kd.Zf | apply Kd.Ze | apply Kd.Zj)); exact Kd.Zv HO518.out (fun _ hk => hk.1.2)⟩, ⟨Qa0⟩⟩
    subst c16
    rw [if_pos rfl] at H
    obtain ⟨y520, hy520⟩ : ∃ y_ : List Int, y_ = (([1] : List Int)) := ⟨_, rfl⟩
    replace H : ((r1_Plus.f k1 t516 y520).bind fun t523 => (r1_Divide.j1 k1 l0 l1 x7_1 t523 x9_1)) = some (r1, r2) := Qh hy520 H
    have Ny520 := Yt.mk hy520
    clear hy520
    replace H := Option.bind_eq_some_iff.mp H
    obtain ⟨t523, A170, H⟩ := H
    try dsimp only at H
    have A17 := Yt.mk A170
    clear A170
    have H' := Yt.mk H
    clear H
    go_wp2_with (first | ((with_reducible refine Yk (N := 28) rfl ?_); refine Kd.R_lit (Kd.int .u32) _ 47 ?hg (N := 28) ?hd (xs := ([1] : List Int)) (inner := [.int .u32 1]) (ok := fun _ => True) (okp := fun _ => True) ?hr ?hp (fun _ hk => hk) trivial (Below.refl _ _) (Nat.le_refl _) (by simp) ?_; (case hd => rfl); (case hg => rfl); (case hr => exact Qa8); (case hp => exact (Reps.one (show Kd.M (Kd.int .u32) _ _ _ 1 [.int .u32 1] from rfl) (Reps.none _ _))); intro v521 w18 ho19 hb hg_ hnew_; clear hg_ hnew_; (first | rw [← Ny520.out] at ho19 | (simp only [Int.reduceToNat] at ho19; rw [← Ny520.out] at ho19)); have HO522 := Yt.mk (Kd.Yb (Kd.Ya (Kd.Ya (Kd.Ya ho19 (Kd.R_lt (Qr1 HO_7.out))) (Kd.R_lt (Qr1 HO_8.out))) (Kd.R_lt (Qr1 HO518.out))) (Zk (Qa0))); replace HO_7 := Yt.mk (Kd.Yf (Qr1 HO_7.out) (Kd.Zw ho19) hb); replace HO_8 := Yt.mk (Kd.Yf (Qr1 HO_8.out) (Kd.Zw ho19) hb); replace HO518 := Yt.mk (Kd.Yf (Qr1 HO518.out) (Kd.Zw ho19) hb); replace HB := Yt.mk (Zm (Qa0) hb); clear hb ho19; obtain ⟨Ao20, co20, eo20⟩ := Kd.Zx HO518.out; subst eo20; obtain ⟨Ao21, co21, eo21⟩ := Kd.Zx HO522.out; subst eo21) | ((with_reducible refine Zr (f := 37) rfl ?_); refine Yg (some 29) rfl rfl Try.func37 Qa7 rfl #[.slice Ao20 t516.length co20, .slice Ao21 y520.length co21] rfl Qa2 ?_; (with_reducible refine (r1_Plus.calls k1 _ _ t516 _ _ y520 t523 _ ?side1 ?side2 ?side3 ?side4 A17.out).mono ?_); (case side1 => exact Qe9 (Kd.Zs HO518.out).2.2); (case side2 => exact (Kd.Zs HO518.out).2.1); (case side3 => exact Qe9 (Kd.Zs HO522.out).2.2); (case side4 => exact (Kd.Zs HO522.out).2.1); rintro e w22 ⟨v524, rfl, ho0, hb⟩; refine ⟨_, rfl, ?_⟩; have HO525 := Yt.mk (Kd.Yb (Kd.Ya (Kd.Ya (Kd.Ya (Kd.Ya ho0 (Kd.R_lt (Qr1 HO_7.out))) (Kd.R_lt (Qr1 HO_8.out))) (Kd.R_lt (Qr1 HO518.out))) (Kd.R_lt (Qr1 HO522.out))) (Zk (Qa0))); replace HO_7 := Yt.mk (Kd.Yf (Qr1 HO_7.out) (Kd.Zw ho0) hb); replace HO_8 := Yt.mk (Kd.Yf (Qr1 HO_8.out) (Kd.Zw ho0) hb); replace HO518 := Yt.mk (Kd.Yf (Qr1 HO518.out) (Kd.Zw ho0) hb); replace HO522 := Yt.mk (Kd.Yf (Qr1 HO522.out) (Kd.Zw ho0) hb); replace HB := Yt.mk (Zm (Qa0) hb); (try clear hb); (try clear ho0)))
    go_meet
    case rel => exact ⟨_, (t523), H', ⟨by have := HK1.out; first | omega | exact Nat.le_refl _⟩, ⟨by (with_reducible repeat (first | apply Kd.Zf | apply Kd.Ze | apply Kd.Zj)); exact Kd.Zv HO_7.out (fun _ hk => hk.2)⟩, ⟨by (with_reducible repeat (first | apply Kd.Zf | apply Kd.Ze | apply Kd.Zj)); exact Kd.Zv HO525.out (fun _ hk => hk.1.1.1.2)⟩, ⟨Qa0⟩⟩
   case rest =>
    clear HC13
    try clear c1; try clear c2; try clear p2; try clear c3; try clear c5; try clear c5b0; try clear c5b1; try clear c6; try clear c6b0; try clear c6b1; try clear p6; try clear c8; try clear c10; try clear c10b0; try clear c16; try clear p2; try clear p6
    obtain ⟨kq, x8_12, HA, HJ12, HO_7, HO_8, HB⟩ := hcut
    cases kq with
    | zero => exact absurd HA.out (by simp [r1_Divide.j1])
    | succ kj12 =>
     have H := HA.out
     clear HA
     simp only [r1_Divide.j1] at H
     replace H := Option.bind_eq_some_iff.mp H
     obtain ⟨t526, A230, H⟩ := H
     try dsimp only at H
     have A23 := Yt.mk A230
     clear A230
     by_cases c24 : t526 ≥ 0
     rotate_left
     ·rw [if_neg c24] at H
      have c24b0 : decide (0 ≤ t526) = false := decide_eq_false c24
      clear c24
      have H' := Yt.mk H
      clear H
      obtain ⟨Ao38, co38, eo38⟩ := Kd.Zx HO_8.out
      subst eo38
      go_wp2_with (first | ((with_reducible refine Zr (f := 36) rfl ?_); refine Yg (some 32) rfl rfl Try.func36 Qa7 rfl #[.slice Ao38 x8_12.length co38, .slice A1 l1.length c1] rfl Qa2 ?_; (with_reducible refine (r1_Cmp.calls kj12 _ _ x8_12 _ _ l1 t526 _ ?side1 ?side2 ?side3 ?side4 A23.out).mono ?_); (case side1 => exact Qe9 (Kd.Zs HO_8.out).2.2); (case side2 => exact (Kd.Zs HO_8.out).2.1); (case side3 => exact Qe9 (Kd.Ys HR1.out HB.out)); (case side4 => exact HC1.out); rintro e w39 ⟨rfl, hb⟩; refine ⟨_, rfl, ?_⟩; replace HO_7 := Yt.mk (Kd.Yd (Qr1 HO_7.out) hb); replace HO_8 := Yt.mk (Kd.Yd (Qr1 HO_8.out) hb); replace HB := Yt.mk (Zm (Qa0) hb); (try clear hb)))
      go_roundg kj12
      case measure => have := HK1.out; have := HJ12.out; omega
      case rel => exact ⟨(x7_1), (x8_12), (wrap64 (x9_1 - 1)), Qa5, H', ⟨by have := HK1.out; have := HJ12.out; omega⟩, ⟨Qr1 HO_7.out⟩, ⟨Qr1 HO_8.out⟩, ⟨Qa0⟩⟩
     rw [if_pos c24] at H
     have c24b0 : decide (0 ≤ t526) = true := decide_eq_true c24
     clear c24
     replace H := Option.bind_eq_some_iff.mp H
     obtain ⟨t527, A250, H⟩ := H
     try dsimp only at H
     have A25 := Yt.mk A250
     clear A250
     obtain ⟨ji26, hji26⟩ : ∃ j_ : Int, (wrap64 (Int.tdiv x9_1 32)) = j_ := ⟨_, rfl⟩
     replace H : (if 0 ≤ (ji26) then (if (ji26) < (x7_1.length : Int) then (if 0 ≤ (IntKind.u64.wrap (Int.tmod x9_1 32)) then (r1_Divide.l0 kj12 l0 l1 (x7_1.set ((ji26) : Int).toNat (((rd x7_1 (ji26)) + (shl .u32 1 (IntKind.u64.wrap (Int.tmod x9_1 32)))) % 4294967296)) t527 (wrap64 (x9_1 - 1))) else (none)) else (none)) else (none)) = some (r1, r2) := by first | (rw [hji26] at H; exact H) | (simp only [hji26] at H ⊢; exact H)
     (try rw [hji26] at A23)
     (try rw [hji26] at A25)
     have hji26w : (IntKind.i64.wrap (Int.tdiv x9_1 32)) = ji26 := (Yi _).trans hji26
     by_cases c27 : 0 ≤ (ji26)
     rotate_left
     ·rw [if_neg c27] at H
      exact absurd H (by simp)
     rw [if_pos c27] at H
     have c27b0 : decide (0 ≤ (ji26)) = true := decide_eq_true c27
     clear c27
     by_cases c28 : (ji26) < (x7_1.length : Int)
     rotate_left
     ·rw [if_neg c28] at H
      exact absurd H (by simp)
     rw [if_pos c28] at H
     have c28b0 : decide ((ji26) < (x7_1.length : Int)) = true := decide_eq_true c28
     clear c28
     by_cases c29 : 0 ≤ (IntKind.u64.wrap (Int.tmod x9_1 32))
     rotate_left
     ·rw [if_neg c29] at H
      exact absurd H (by simp)
     rw [if_pos c29] at H
     have c29b0 := eq_true c29
     have c29b1 : decide (0 ≤ (IntKind.u64.wrap (Int.tmod x9_1 32))) = true := decide_eq_true c29
     clear c29
     obtain ⟨ji30, hji30⟩ : ∃ j_ : Int, (shl .u32 1 (IntKind.u64.wrap (Int.tmod x9_1 32))) = j_ := ⟨_, rfl⟩
     replace H : (r1_Divide.l0 kj12 l0 l1 (x7_1.set ((ji26) : Int).toNat (((rd x7_1 (ji26)) + (ji30)) % 4294967296)) t527 (wrap64 (x9_1 - 1))) = some (r1, r2) := by first | (rw [hji30] at H; exact H) | (simp only [hji30] at H ⊢; exact H)
     (try rw [hji30] at A23)
     (try rw [hji30] at A25)
     have hji30_ : (IntKind.u32.wrap (1 * 2 ^ min (IntKind.u64.wrap (Int.tmod x9_1 32)).toNat 32)) = ji30 := hji30
     have hji30z : (IntKind.u64.wrap (Int.tmod x9_1 32)) ≤ 32 → (IntKind.u32.wrap (1 * 2 ^ (IntKind.u64.wrap (Int.tmod x9_1 32)).toNat)) = ji30 := shl_small hji30
     have hji30u : (IntKind.u32.wrap (2 ^ min (IntKind.u64.wrap (Int.tmod x9_1 32)).toNat 32)) = ji30 := by have h_ := hji30_; rw [Int.one_mul] at h_; exact h_
     have hji30v : (IntKind.u64.wrap (Int.tmod x9_1 32)) ≤ 32 → (IntKind.u32.wrap (2 ^ (IntKind.u64.wrap (Int.tmod x9_1 32)).toNat)) = ji30 := fun hle_ => by have h_ := hji30z hle_; rw [Int.one_mul] at h_; exact h_
     obtain ⟨y531, hy531⟩ : ∃ y_ : List Int, y_ = (x7_1.set ((ji26) : Int).toNat (((rd x7_1 (ji26)) + (ji30)) % 4294967296)) := ⟨_, rfl⟩
     replace H : (r1_Divide.l0 kj12 l0 l1 y531 t527 (wrap64 (x9_1 - 1))) = some (r1, r2) := Qh hy531 H
     have Ny531 := Yt.mk hy531
     clear hy531
     have H' := Yt.mk H
     clear H
     obtain ⟨Ao32, co32, eo32⟩ := Kd.Zx HO_8.out
     subst eo32
     go_wp2_with (first | ((with_reducible refine Zr (f := 36) rfl ?_); refine Yg (some 32) rfl rfl Try.func36 Qa7 rfl #[.slice Ao32 x8_12.length co32, .slice A1 l1.length c1] rfl Qa2 ?_; (with_reducible refine (r1_Cmp.calls kj12 _ _ x8_12 _ _ l1 t526 _ ?side1 ?side2 ?side3 ?side4 A23.out).mono ?_); (case side1 => exact Qe9 (Kd.Zs HO_8.out).2.2); (case side2 => exact (Kd.Zs HO_8.out).2.1); (case side3 => exact Qe9 (Kd.Ys HR1.out HB.out)); (case side4 => exact HC1.out); rintro e w33 ⟨rfl, hb⟩; refine ⟨_, rfl, ?_⟩; replace HO_7 := Yt.mk (Kd.Yd (Qr1 HO_7.out) hb); replace HO_8 := Yt.mk (Kd.Yd (Qr1 HO_8.out) hb); replace HB := Yt.mk (Zm (Qa0) hb); (try clear hb)) | ((with_reducible refine Zr (f := 45) rfl ?_); refine Yg (some 36) rfl rfl Try.func45 Qa7 rfl #[.slice Ao32 x8_12.length co32, .slice A1 l1.length c1] rfl Qa2 ?_; (with_reducible refine (r1_Minus.calls kj12 _ _ x8_12 _ _ l1 t527 _ ?side1 ?side2 ?side3 ?side4 A25.out).mono ?_); (case side1 => exact Qe9 (Kd.Zs HO_8.out).2.2); (case side2 => exact (Kd.Zs HO_8.out).2.1); (case side3 => exact Qe9 (Kd.Ys HR1.out HB.out)); (case side4 => exact HC1.out); rintro e w34 ⟨v528, rfl, ho0, hb⟩; refine ⟨_, rfl, ?_⟩; have HO529 := Yt.mk (Kd.Yb (Kd.Ya (Kd.Ya ho0 (Kd.R_lt (Qr1 HO_7.out))) (Kd.R_lt (Qr1 HO_8.out))) (Zk (Qa0))); replace HO_7 := Yt.mk (Kd.Yf (Qr1 HO_7.out) (Kd.Zw ho0) hb); replace HO_8 := Yt.mk (Kd.Yf (Qr1 HO_8.out) (Kd.Zw ho0) hb); replace HB := Yt.mk (Zm (Qa0) hb); (try clear hb); (try clear ho0); obtain ⟨Ao35, co35, eo35⟩ := Kd.Zx HO_7.out; subst eo35; have p530 : 0 ≤ ((ji26) : Int) := Qd; have q530 : (ji26) < (x7_1.length : Int) := Qd; obtain ⟨ad530, e530, hx530_0⟩ := Kd.at_int (Kd.Zs HO_7.out).2.2 (ji26) p530 q530; cases e530; replace p530 := eq_true p530; replace q530 := eq_true q530; have p31 : 0 ≤ ((ji26) : Int) := Qd; have q31 : ((ji26) : Int) < ((x7_1.length : Int) : Int) := Qd; obtain ⟨go31, co31, eo31, gb31, gl31, cl31, HG31⟩ := Kd.R_form HO_7.out (by omega); (first | cases eo31 | (injection eo31 with ea_ en_ ec_; (first | subst ea_ | (injection ea_ with ea_; subst ea_)); subst ec_; clear en_)); have GB31 := Yt.mk gb31; have GG31 := Yt.mk HG31; clear gb31 gl31 HG31; (first | simp only [add_plain] at hx530_0 | skip); obtain ⟨hx31_0, hf31_0⟩ := Kd.R_celln 0 HO_7.out ((ji26) : Int) p31 q31; replace p31 := eq_true p31; replace q31 := eq_true q31; obtain ⟨hy36_, hz36_⟩ := Kd.R_celln 0 HO_7.out ((ji26) : Int) (Qd) (Qd); have HP36 := Kd.R_putg HO_7.out ((ji26) : Int) (((rd x7_1 (ji26)) + (ji30)) % 4294967296)) | ((with_reducible refine gate_store (t := 47) (p := 47) rfl ?_); refine store_event (t := 47) (p := 47) (v := ?vo_w37) (w1 := (w34.setCell ⟨go31, ((ji26) : Int).toNat, none⟩ (.int .u32 (((rd x7_1 (ji26)) + (ji30)) % 4294967296)))) ?hg ?ho ?hn ?hr ?_; (case ho => rfl); (case hg => rfl); (case hn => rfl); (case hr => exact Qa8); intro w37 hw; have hg : w34.grownBy w37 (some go31) := (by rw [hw]; exact HP36.2); have hp_ : Kd.R (Kd.int .u32) 47 w37 w.heap.size (fun k_ => some k_ ≠ (.slice Ao32 x8_12.length co32 : Value).ownBlock ∧ some k_ ≠ (v528 : Value).ownBlock) (.slice (some ⟨go31, 0, none⟩) x7_1.length co35) y531 := (by rw [hw, Ny531.out]; exact HP36.1); clear HP36; replace HO_7 := Yt.mk (hp_); replace HO_8 := Yt.mk (Kd.R_after (v := (.slice (some ⟨go31, 0, none⟩) x7_1.length co35)) (v1 := (.slice (some ⟨go31, 0, none⟩) x7_1.length co35)) (ok := (fun k_ => some k_ ≠ (v528 : Value).ownBlock)) (by (with_reducible repeat (first | apply Kd.Zf | apply Kd.Ze | apply Kd.Zj)); exact Kd.Zv HO_8.out (fun _ hk => ⟨hk.2, hk.1⟩)) hg (.inl rfl)); replace HO529 := Yt.mk (Kd.R_after (v := (.slice (some ⟨go31, 0, none⟩) x7_1.length co35)) (v1 := (.slice (some ⟨go31, 0, none⟩) x7_1.length co35)) (ok := (fun k_ => some k_ ≠ (.slice Ao32 x8_12.length co32 : Value).ownBlock)) (by (with_reducible repeat (first | apply Kd.Zf | apply Kd.Ze | apply Kd.Zj)); exact Kd.Zv HO529.out (fun _ hk => ⟨hk.2, hk.1.2⟩)) hg (.inl rfl)); replace HB := Yt.mk ((by rw [hw]; exact Zd (HB.out) GB31.out : Below w.heap.size w w37)); clear hg hw hp_))
     go_roundg kj12
     case measure => have := HK1.out; have := HJ12.out; omega
     case rel => exact ⟨(y531), (t527), (wrap64 (x9_1 - 1)), Qa5, H', ⟨by have := HK1.out; have := HJ12.out; omega⟩, ⟨by (with_reducible repeat (first | apply Kd.Zf | apply Kd.Ze | apply Kd.Zj)); exact Kd.Zv HO_7.out (fun _ hk => hk.2)⟩, ⟨by (with_reducible repeat (first | apply Kd.Zf | apply Kd.Ze | apply Kd.Zj)); exact Kd.Zv HO529.out (fun _ hk => hk.2)⟩, ⟨Qa0⟩⟩
def r2_Make.f (k : Nat) (a0 : Bool) (l1 : List Int) (l2 : List Int) : Option (Bool × List Int × List Int × Int) := (r1_Trim.f k l1).bind fun t1165 => ((r1_Trim.f k l2).bind fun t1168 => (if (t1168.length : Int) = 0 then (some (false, ([] : List Int), ([] : List Int), 10)) else (if (t1165.length : Int) = 0 then (some (false, ([] : List Int), (([1] : List Int)), 0)) else ((r1_Common.f k t1165 t1168).bind fun t1174 => ((r1_Divide.f k t1165 t1174).bind fun bt1177 => ((r1_Divide.f k t1168 t1174).bind fun bt1183 => (if (bt1177.1.length : Int) > 16 then (some (false, ([] : List Int), ([] : List Int), 4)) else (if (bt1183.1.length : Int) > 16 then (some (false, ([] : List Int), ([] : List Int), 4)) else (some (a0, bt1177.1, bt1183.1, 0))))))))))
theorem r2_Make.calls (k : Nat) (a0 : Bool) (A1 : Option Addr) (c1 : Nat) (l1 : List Int) (A2 : Option Addr) (c2 : Nat) (l2 : List Int) (r1 : Bool) (r2 : List Int) (r3 : List Int) (r4 : Int) (w : World) (hr1 : Kd.C (Kd.int .u32) w A1 l1.length l1) (hc1 : l1.length ≤ c1) (hr2 : Kd.C (Kd.int .u32) w A2 l2.length l2) (hc2 : l2.length ≤ c2) (h : r2_Make.f k a0 l1 l2 = some (r1, r2, r3, r4)) :
  Calls Try.prog 49 #[.bool a0, .slice A1 l1.length c1, .slice A2 l2.length c2] w fun e w' => ∃ v1_ v2_ : Value, e = .returned (.tuple #[.agg #[.bool r1, v1_, v2_], .int .i64 r4]) ∧ Kd.R (Kd.int .u32) 47 w' w.heap.size (fun k_ => some k_ ≠ (v2_ : Value).ownBlock) v1_ r2 ∧ Kd.R (Kd.int .u32) 47 w' w.heap.size (fun k_ => some k_ ≠ (v1_ : Value).ownBlock) v2_ r3 ∧ Below w.heap.size w w' := by
 have hu50 := Try.underlying50
 have HR1 := Yt.mk hr1
 have HC1 := Yt.mk hc1
 clear hr1 hc1
 have HR2 := Yt.mk hr2
 have HC2 := Yt.mk hc2
 clear hr2 hc2
 have HB := Yt.mk (Below.refl w.heap.size w)
 unfold r2_Make.f at h
 have H := h
 clear h
 replace H := Option.bind_eq_some_iff.mp H
 obtain ⟨t1165, A40, H⟩ := H
 try dsimp only at H
 have A4 := Yt.mk A40
 clear A40
 replace H := Option.bind_eq_some_iff.mp H
 obtain ⟨t1168, A50, H⟩ := H
 try dsimp only at H
 have A5 := Yt.mk A50
 clear A50
 by_cases c6 : (t1168.length : Int) = 0
 ·rw [if_pos c6] at H
  have c6b0 : ((t1168.length : Int) == 0) = true := beq_iff_eq.mpr c6
  have c6b1 : ((t1168.length : Int) != 0) = false := bne_eq_false_iff_eq.mpr c6
  clear c6
  simp only [Option.some.injEq, Prod.mk.injEq] at H
  obtain ⟨rfl, rfl, rfl, rfl⟩ := H
  go_enter Try.func49, Try.ntmps49
  go_wp2_with (first | ((with_reducible refine Yk (N := 6) rfl ?_); (try (refine gate_guard (by rfl) ?_; dsimp only)); refine Yo ?hg (N := 6) ?hd (cs := #[.bool false, .slice none 0 0, .slice none 0 0]) (t := 50) ?hr ?_; (case hd => rfl); (case hg => rfl); (case hr => exact Qa8); intro gb1164 hg w7 hbox hb; have BK1164 := Yt.mk (hbox); have GW1164 := Yt.mk ((by rw [hg]; exact (Zk (Qa0)) : w.heap.size ≤ gb1164)); have GE1164 := Yt.mk ((by rw [hg]; exact (Zk (Qa0)) : w.heap.size ≤ gb1164)); replace HB := Yt.mk (Zm (Qa0) hb); clear hb hbox hg) | ((with_reducible refine Zr (f := 46) rfl ?_); refine Yg (some 12) rfl rfl Try.func46 Qa7 rfl #[.slice A1 l1.length c1] rfl Qa2 ?_; (with_reducible refine (r1_Trim.calls k _ _ l1 t1165 _ ?side1 ?side2 A4.out).mono ?_); (case side1 => exact Qe9 (Kd.Ys HR1.out HB.out)); (case side2 => exact HC1.out); rintro e w8 ⟨v1166, rfl, ho0, hb⟩; refine ⟨_, rfl, ?_⟩; have HO1167 := Yt.mk (Kd.Yb ho0 (Zk (Qa0))); replace BK1164 := Yt.mk (Zq (g := gb1164) (o := .cells #[.bool false, .slice none 0 0, .slice none 0 0] 50 (0, 0)) (Qr12 BK1164.out) hb); replace HB := Yt.mk (Zm (Qa0) hb); (try clear hb); (try clear ho0)) | ((with_reducible refine Zr (f := 46) rfl ?_); refine Yg (some 14) rfl rfl Try.func46 Qa7 rfl #[.slice A2 l2.length c2] rfl Qa2 ?_; (with_reducible refine (r1_Trim.calls k _ _ l2 t1168 _ ?side1 ?side2 A5.out).mono ?_); (case side1 => exact Qe9 (Kd.Ys HR2.out HB.out)); (case side2 => exact HC2.out); rintro e w9 ⟨v1169, rfl, ho0, hb⟩; refine ⟨_, rfl, ?_⟩; have HO1170 := Yt.mk (Kd.Yb (Kd.Ya ho0 (Kd.R_lt (Qr1 HO1167.out))) (Zk (Qa0))); replace HO1167 := Yt.mk (Kd.Yf (Qr1 HO1167.out) (Kd.Zw ho0) hb); replace BK1164 := Yt.mk (Zq (g := gb1164) (o := .cells #[.bool false, .slice none 0 0, .slice none 0 0] 50 (0, 0)) (Qr12 BK1164.out) hb); replace HB := Yt.mk (Zm (Qa0) hb); (try clear hb); (try clear ho0); obtain ⟨Ao10, co10, eo10⟩ := Kd.Zx HO1170.out; subst eo10; have hcz11_0 : w9.cell? ⟨gb1164, 0, none⟩ = some (.bool false) := (Zl BK1164.out 0).trans rfl; have hcz11_1 : w9.cell? ⟨gb1164, 1, none⟩ = some (.slice none 0 0) := (Zl BK1164.out 1).trans rfl; have hcz11_2 : w9.cell? ⟨gb1164, 2, none⟩ = some (.slice none 0 0) := (Zl BK1164.out 2).trans rfl; have hfz11_0 := Zn BK1164.out 0; have hfz11_1 := Zn BK1164.out 1; have hfz11_2 := Zn BK1164.out 2))
  refine bodyPost_ret (results_ct rfl _ _ gb1164 50 #[.bool false, .slice none 0 0, .slice none 0 0] (0, 0) _ rfl (by (with_reducible repeat (first | refine Zg ?_ _ | refine Zi ?_ | refine Zh ?_ _)); refine Ym (cs := #[.bool false, .slice none 0 0, .slice none 0 0]) ?_ 2 _ rfl; (with_reducible repeat (first | refine Zg ?_ _ | refine Zi ?_ | refine Zh ?_ _)); refine Ym (cs := #[.bool false, .slice none 0 0, .slice none 0 0]) ?_ 1 _ rfl; (with_reducible repeat (first | refine Zg ?_ _ | refine Zi ?_ | refine Zh ?_ _)); refine Ym (cs := #[.bool false, .slice none 0 0, .slice none 0 0]) ?_ 0 _ rfl; (with_reducible repeat (first | refine Zg ?_ _ | refine Zi ?_ | refine Zh ?_ _)); exact BK1164.out) Try.underlying50 rfl Qa7) rfl ?_
  exact ⟨_, _, Qa4, by first | exact Kd.R_nil _ _ _ _ _ | exact Kd.N_nil _ _ _ _ _ | exact Kd.V_nil _ _ _ _ _ | exact Kd.Q_nil _ _ _ _ _ | exact Kd.S_nil _ _ _ _ _, by first | exact Kd.R_nil _ _ _ _ _ | exact Kd.N_nil _ _ _ _ _ | exact Kd.V_nil _ _ _ _ _ | exact Kd.Q_nil _ _ _ _ _ | exact Kd.S_nil _ _ _ _ _, Qa0⟩
 rw [if_neg c6] at H
 have c6b0 : ((t1168.length : Int) == 0) = false := beq_eq_false_iff_ne.mpr c6
 have c6b1 : ((t1168.length : Int) != 0) = true := bne_iff_ne.mpr c6
 have c6b2 : ¬ (t1168 = []) := fun h_ => c6 (by rw [h_]; rfl)
 by_cases c12 : (t1165.length : Int) = 0
 ·rw [if_pos c12] at H
  have c12b0 : ((t1165.length : Int) == 0) = true := beq_iff_eq.mpr c12
  have c12b1 : ((t1165.length : Int) != 0) = false := bne_eq_false_iff_eq.mpr c12
  clear c12
  obtain ⟨y1171, hy1171⟩ : ∃ y_ : List Int, y_ = (([1] : List Int)) := ⟨_, rfl⟩
  replace H : (some (false, ([] : List Int), y1171, 0)) = some (r1, r2, r3, r4) := Qh hy1171 H
  have Ny1171 := Yt.mk hy1171
  clear hy1171
  simp only [Option.some.injEq, Prod.mk.injEq] at H
  obtain ⟨rfl, rfl, rfl, rfl⟩ := H
  go_enter Try.func49, Try.ntmps49
  go_wp2_with (first | ((with_reducible refine Yk (N := 6) rfl ?_); (try (refine gate_guard (by rfl) ?_; dsimp only)); refine Yo ?hg (N := 6) ?hd (cs := #[.bool false, .slice none 0 0, .slice none 0 0]) (t := 50) ?hr ?_; (case hd => rfl); (case hg => rfl); (case hr => exact Qa8); intro gb1164 hg w13 hbox hb; have BK1164 := Yt.mk (hbox); have GW1164 := Yt.mk ((by rw [hg]; exact (Zk (Qa0)) : w.heap.size ≤ gb1164)); have GE1164 := Yt.mk ((by rw [hg]; exact (Zk (Qa0)) : w.heap.size ≤ gb1164)); replace HB := Yt.mk (Zm (Qa0) hb); clear hb hbox hg) | ((with_reducible refine Zr (f := 46) rfl ?_); refine Yg (some 12) rfl rfl Try.func46 Qa7 rfl #[.slice A1 l1.length c1] rfl Qa2 ?_; (with_reducible refine (r1_Trim.calls k _ _ l1 t1165 _ ?side1 ?side2 A4.out).mono ?_); (case side1 => exact Qe9 (Kd.Ys HR1.out HB.out)); (case side2 => exact HC1.out); rintro e w14 ⟨v1166, rfl, ho0, hb⟩; refine ⟨_, rfl, ?_⟩; have HO1167 := Yt.mk (Kd.Yb ho0 (Zk (Qa0))); replace BK1164 := Yt.mk (Zq (g := gb1164) (o := .cells #[.bool false, .slice none 0 0, .slice none 0 0] 50 (0, 0)) (Qr12 BK1164.out) hb); replace HB := Yt.mk (Zm (Qa0) hb); (try clear hb); (try clear ho0)) | ((with_reducible refine Zr (f := 46) rfl ?_); refine Yg (some 14) rfl rfl Try.func46 Qa7 rfl #[.slice A2 l2.length c2] rfl Qa2 ?_; (with_reducible refine (r1_Trim.calls k _ _ l2 t1168 _ ?side1 ?side2 A5.out).mono ?_); (case side1 => exact Qe9 (Kd.Ys HR2.out HB.out)); (case side2 => exact HC2.out); rintro e w15 ⟨v1169, rfl, ho0, hb⟩; refine ⟨_, rfl, ?_⟩; have HO1170 := Yt.mk (Kd.Yb (Kd.Ya ho0 (Kd.R_lt (Qr1 HO1167.out))) (Zk (Qa0))); replace HO1167 := Yt.mk (Kd.Yf (Qr1 HO1167.out) (Kd.Zw ho0) hb); replace BK1164 := Yt.mk (Zq (g := gb1164) (o := .cells #[.bool false, .slice none 0 0, .slice none 0 0] 50 (0, 0)) (Qr12 BK1164.out) hb); replace HB := Yt.mk (Zm (Qa0) hb); (try clear hb); (try clear ho0); obtain ⟨Ao16, co16, eo16⟩ := Kd.Zx HO1170.out; subst eo16; obtain ⟨Ao17, co17, eo17⟩ := Kd.Zx HO1167.out; subst eo17) | ((with_reducible refine Yk (N := 22) rfl ?_); (try (refine gate_guard (by rfl) ?_; dsimp only)); refine Kd.R_lit (Kd.int .u32) _ 47 ?hg (N := 22) ?hd (xs := ([1] : List Int)) (inner := [.int .u32 1]) (ok := fun _ => True) (okp := fun _ => True) ?hr ?hp (fun _ hk => hk) trivial (Below.refl _ _) (Nat.le_refl _) (by simp) ?_; (case hd => rfl); (case hg => rfl); (case hr => exact Qa8); (case hp => exact (Reps.one (show Kd.M (Kd.int .u32) _ _ _ 1 [.int .u32 1] from rfl) (Reps.none _ _))); intro v1172 w18 ho19 hb hg_ hnew_; clear hg_ hnew_; (first | rw [← Ny1171.out] at ho19 | (simp only [Int.reduceToNat] at ho19; rw [← Ny1171.out] at ho19)); have HO1173 := Yt.mk (Kd.Yb (Kd.Ya (Kd.Ya ho19 (Kd.R_lt (Qr1 HO1167.out))) (Kd.R_lt (Qr1 HO1170.out))) (Zk (Qa0))); replace HO1167 := Yt.mk (Kd.Yf (Qr1 HO1167.out) (Kd.Zw ho19) hb); replace HO1170 := Yt.mk (Kd.Yf (Qr1 HO1170.out) (Kd.Zw ho19) hb); replace BK1164 := Yt.mk (Zq (g := gb1164) (o := .cells #[.bool false, .slice none 0 0, .slice none 0 0] 50 (0, 0)) (Qr12 BK1164.out) hb); replace HB := Yt.mk (Zm (Qa0) hb); clear hb ho19; obtain ⟨Ao20, co20, eo20⟩ := Kd.Zx HO1173.out; subst eo20; have hcz21_0 : w18.cell? ⟨gb1164, 0, none⟩ = some (.bool false) := (Zl BK1164.out 0).trans rfl; have hcz21_1 : w18.cell? ⟨gb1164, 1, none⟩ = some (.slice none 0 0) := (Zl BK1164.out 1).trans rfl; have hcz21_2 : w18.cell? ⟨gb1164, 2, none⟩ = some (.slice none 0 0) := (Zl BK1164.out 2).trans rfl; have hfz21_0 := Zn BK1164.out 0; have hfz21_1 := Zn BK1164.out 1; have hfz21_2 := Zn BK1164.out 2))
  refine bodyPost_ret (results_ct rfl _ _ gb1164 50 #[.bool false, .slice none 0 0, .slice Ao20 y1171.length co20] (0, 0) _ rfl (by (with_reducible repeat (first | refine Zg ?_ _ | refine Zi ?_ | refine Zh ?_ _)); refine Ym (cs := #[.bool false, .slice none 0 0, .slice none 0 0]) ?_ 2 _ rfl; (with_reducible repeat (first | refine Zg ?_ _ | refine Zi ?_ | refine Zh ?_ _)); refine Ym (cs := #[.bool false, .slice none 0 0, .slice none 0 0]) ?_ 1 _ rfl; (with_reducible repeat (first | refine Zg ?_ _ | refine Zi ?_ | refine Zh ?_ _)); refine Ym (cs := #[.bool false, .slice none 0 0, .slice none 0 0]) ?_ 0 _ rfl; (with_reducible repeat (first | refine Zg ?_ _ | refine Zi ?_ | refine Zh ?_ _)); exact BK1164.out) Try.underlying50 rfl Qa7) rfl ?_
  exact ⟨_, _, Qa4, by first | exact Kd.R_nil _ _ _ _ _ | exact Kd.N_nil _ _ _ _ _ | exact Kd.V_nil _ _ _ _ _ | exact Kd.Q_nil _ _ _ _ _ | exact Kd.S_nil _ _ _ _ _, by (with_reducible repeat (first | apply Kd.Zf | apply Kd.Ze | apply Kd.Zj)); exact Kd.Zv (Kd.Yh (p := ⟨gb1164, 2, none⟩) (Kd.Yh (p := ⟨gb1164, 1, none⟩) (Kd.Yh (p := ⟨gb1164, 0, none⟩) (Kd.Yq HO1173.out BK1164.out (by decide)) (fun _ hk => hk.2) (.bool false)) (fun _ hk => hk.2) (.slice none 0 0)) (fun _ hk => hk.2) (.slice Ao20 y1171.length co20)) (fun _ hk => (by simp [Value.ownBlock])), Qa0⟩
 rw [if_neg c12] at H
 have c12b0 : ((t1165.length : Int) == 0) = false := beq_eq_false_iff_ne.mpr c12
 have c12b1 : ((t1165.length : Int) != 0) = true := bne_iff_ne.mpr c12
 have c12b2 : ¬ (t1165 = []) := fun h_ => c12 (by rw [h_]; rfl)
 replace H := Option.bind_eq_some_iff.mp H
 obtain ⟨t1174, A220, H⟩ := H
 try dsimp only at H
 have A22 := Yt.mk A220
 clear A220
 replace H := Option.bind_eq_some_iff.mp H
 obtain ⟨⟨t1177, t1178⟩, A230, H⟩ := H
 try dsimp only at H
 have A23 := Yt.mk A230
 clear A230
 replace H := Option.bind_eq_some_iff.mp H
 obtain ⟨⟨t1183, t1184⟩, A240, H⟩ := H
 try dsimp only at H
 have A24 := Yt.mk A240
 clear A240
 by_cases c25 : (t1177.length : Int) > 16
 ·rw [if_pos c25] at H
  have c25b0 : decide (16 < (t1177.length : Int)) = true := decide_eq_true c25
  have c25b1 : decide (16 < t1177.length) = true := decide_eq_true (by omega)
  clear c25
  simp only [Option.some.injEq, Prod.mk.injEq] at H
  obtain ⟨rfl, rfl, rfl, rfl⟩ := H
  go_enter Try.func49, Try.ntmps49
  go_wp2_with (first | ((with_reducible refine Yk (N := 6) rfl ?_); (try (refine gate_guard (by rfl) ?_; dsimp only)); refine Yo ?hg (N := 6) ?hd (cs := #[.bool false, .slice none 0 0, .slice none 0 0]) (t := 50) ?hr ?_; (case hd => rfl); (case hg => rfl); (case hr => exact Qa8); intro gb1164 hg w26 hbox hb; have BK1164 := Yt.mk (hbox); have GW1164 := Yt.mk ((by rw [hg]; exact (Zk (Qa0)) : w.heap.size ≤ gb1164)); have GE1164 := Yt.mk ((by rw [hg]; exact (Zk (Qa0)) : w.heap.size ≤ gb1164)); replace HB := Yt.mk (Zm (Qa0) hb); clear hb hbox hg) | ((with_reducible refine Zr (f := 46) rfl ?_); refine Yg (some 12) rfl rfl Try.func46 Qa7 rfl #[.slice A1 l1.length c1] rfl Qa2 ?_; (with_reducible refine (r1_Trim.calls k _ _ l1 t1165 _ ?side1 ?side2 A4.out).mono ?_); (case side1 => exact Qe9 (Kd.Ys HR1.out HB.out)); (case side2 => exact HC1.out); rintro e w27 ⟨v1166, rfl, ho0, hb⟩; refine ⟨_, rfl, ?_⟩; have HO1167 := Yt.mk (Kd.Yb ho0 (Zk (Qa0))); replace BK1164 := Yt.mk (Zq (g := gb1164) (o := .cells #[.bool false, .slice none 0 0, .slice none 0 0] 50 (0, 0)) (Qr12 BK1164.out) hb); replace HB := Yt.mk (Zm (Qa0) hb); (try clear hb); (try clear ho0)) | ((with_reducible refine Zr (f := 46) rfl ?_); refine Yg (some 14) rfl rfl Try.func46 Qa7 rfl #[.slice A2 l2.length c2] rfl Qa2 ?_; (with_reducible refine (r1_Trim.calls k _ _ l2 t1168 _ ?side1 ?side2 A5.out).mono ?_); (case side1 => exact Qe9 (Kd.Ys HR2.out HB.out)); (case side2 => exact HC2.out); rintro e w28 ⟨v1169, rfl, ho0, hb⟩; refine ⟨_, rfl, ?_⟩; have HO1170 := Yt.mk (Kd.Yb (Kd.Ya ho0 (Kd.R_lt (Qr1 HO1167.out))) (Zk (Qa0))); replace HO1167 := Yt.mk (Kd.Yf (Qr1 HO1167.out) (Kd.Zw ho0) hb); replace BK1164 := Yt.mk (Zq (g := gb1164) (o := .cells #[.bool false, .slice none 0 0, .slice none 0 0] 50 (0, 0)) (Qr12 BK1164.out) hb); replace HB := Yt.mk (Zm (Qa0) hb); (try clear hb); (try clear ho0); obtain ⟨Ao29, co29, eo29⟩ := Kd.Zx HO1170.out; subst eo29; obtain ⟨Ao30, co30, eo30⟩ := Kd.Zx HO1167.out; subst eo30) | ((with_reducible refine Zr (f := 41) rfl ?_); refine Yg (some 26) rfl rfl Try.func41 Qa7 rfl #[.slice Ao30 t1165.length co30, .slice Ao29 t1168.length co29] rfl Qa2 ?_; (with_reducible refine (r1_Common.calls k _ _ t1165 _ _ t1168 t1174 _ ?side1 ?side2 ?side3 ?side4 A22.out).mono ?_); (case side1 => exact Qe9 (Kd.Zs HO1167.out).2.2); (case side2 => exact (Kd.Zs HO1167.out).2.1); (case side3 => exact Qe9 (Kd.Zs HO1170.out).2.2); (case side4 => exact (Kd.Zs HO1170.out).2.1); rintro e w31 ⟨v1175, rfl, ho0, hb⟩; refine ⟨_, rfl, ?_⟩; have HO1176 := Yt.mk (Kd.Yb (Kd.Ya (Kd.Ya ho0 (Kd.R_lt (Qr1 HO1167.out))) (Kd.R_lt (Qr1 HO1170.out))) (Zk (Qa0))); replace HO1167 := Yt.mk (Kd.Yf (Qr1 HO1167.out) (Kd.Zw ho0) hb); replace HO1170 := Yt.mk (Kd.Yf (Qr1 HO1170.out) (Kd.Zw ho0) hb); replace BK1164 := Yt.mk (Zq (g := gb1164) (o := .cells #[.bool false, .slice none 0 0, .slice none 0 0] 50 (0, 0)) (Qr12 BK1164.out) hb); replace HB := Yt.mk (Zm (Qa0) hb); (try clear hb); (try clear ho0); obtain ⟨Ao32, co32, eo32⟩ := Kd.Zx HO1176.out; subst eo32) | ((with_reducible refine Zr (f := 28) rfl ?_); refine Yg (some 30) rfl rfl Try.func28 Qa7 rfl #[.slice Ao30 t1165.length co30, .slice Ao32 t1174.length co32] rfl Qa2 ?_; (with_reducible refine (r1_Divide.calls k _ _ t1165 _ _ t1174 t1177 t1178 _ ?side1 ?side2 ?side3 ?side4 A23.out).mono ?_); (case side1 => exact Qe9 (Kd.Zs HO1167.out).2.2); (case side2 => exact (Kd.Zs HO1167.out).2.1); (case side3 => exact Qe9 (Kd.Zs HO1176.out).2.2); (case side4 => exact (Kd.Zs HO1176.out).2.1); rintro e w33 ⟨v1179, v1181, rfl, ho0, ho1, hb⟩; refine ⟨_, rfl, ?_⟩; have HO1180 := Yt.mk (Kd.Yb (Kd.Ya (Kd.Ya (Kd.Ya ho0 (Kd.R_lt (Qr1 HO1167.out))) (Kd.R_lt (Qr1 HO1170.out))) (Kd.R_lt (Qr1 HO1176.out))) (Zk (Qa0))); have HO1182 := Yt.mk (Kd.Yb (Kd.Ya (Kd.Ya (Kd.Ya ho1 (Kd.R_lt (Qr1 HO1167.out))) (Kd.R_lt (Qr1 HO1170.out))) (Kd.R_lt (Qr1 HO1176.out))) (Zk (Qa0))); replace HO1167 := Yt.mk (Kd.Zv (Kd.Yl (Kd.Yl (Kd.R_old (Qr1 HO1167.out) hb) (Kd.Zw ho0)) (Kd.Zw ho1)) (fun _ h_ => h_.1)); replace HO1170 := Yt.mk (Kd.Zv (Kd.Yl (Kd.Yl (Kd.R_old (Qr1 HO1170.out) hb) (Kd.Zw ho0)) (Kd.Zw ho1)) (fun _ h_ => h_.1)); replace HO1176 := Yt.mk (Kd.Zv (Kd.Yl (Kd.Yl (Kd.R_old (Qr1 HO1176.out) hb) (Kd.Zw ho0)) (Kd.Zw ho1)) (fun _ h_ => h_.1)); replace BK1164 := Yt.mk (Zq (g := gb1164) (o := .cells #[.bool false, .slice none 0 0, .slice none 0 0] 50 (0, 0)) (Qr12 BK1164.out) hb); replace HB := Yt.mk (Zm (Qa0) hb); (try clear hb); (try clear ho0); (try clear ho1)) | ((with_reducible refine Zr (f := 28) rfl ?_); refine Yg (some 36) rfl rfl Try.func28 Qa7 rfl #[.slice Ao29 t1168.length co29, .slice Ao32 t1174.length co32] rfl Qa2 ?_; (with_reducible refine (r1_Divide.calls k _ _ t1168 _ _ t1174 t1183 t1184 _ ?side1 ?side2 ?side3 ?side4 A24.out).mono ?_); (case side1 => exact Qe9 (Kd.Zs HO1170.out).2.2); (case side2 => exact (Kd.Zs HO1170.out).2.1); (case side3 => exact Qe9 (Kd.Zs HO1176.out).2.2); (case side4 => exact (Kd.Zs HO1176.out).2.1); rintro e w34 ⟨v1185, v1187, rfl, ho0, ho1, hb⟩; refine ⟨_, rfl, ?_⟩; have HO1186 := Yt.mk (Kd.Yb (Kd.Ya (Kd.Ya (Kd.Ya (Kd.Ya (Kd.Ya ho0 (Kd.R_lt (Qr1 HO1167.out))) (Kd.R_lt (Qr1 HO1170.out))) (Kd.R_lt (Qr1 HO1176.out))) (Kd.R_lt (Qr1 HO1180.out))) (Kd.R_lt (Qr1 HO1182.out))) (Zk (Qa0))); have HO1188 := Yt.mk (Kd.Yb (Kd.Ya (Kd.Ya (Kd.Ya (Kd.Ya (Kd.Ya ho1 (Kd.R_lt (Qr1 HO1167.out))) (Kd.R_lt (Qr1 HO1170.out))) (Kd.R_lt (Qr1 HO1176.out))) (Kd.R_lt (Qr1 HO1180.out))) (Kd.R_lt (Qr1 HO1182.out))) (Zk (Qa0))); replace HO1167 := Yt.mk (Kd.Zv (Kd.Yl (Kd.Yl (Kd.R_old (Qr1 HO1167.out) hb) (Kd.Zw ho0)) (Kd.Zw ho1)) (fun _ h_ => h_.1)); replace HO1170 := Yt.mk (Kd.Zv (Kd.Yl (Kd.Yl (Kd.R_old (Qr1 HO1170.out) hb) (Kd.Zw ho0)) (Kd.Zw ho1)) (fun _ h_ => h_.1)); replace HO1176 := Yt.mk (Kd.Zv (Kd.Yl (Kd.Yl (Kd.R_old (Qr1 HO1176.out) hb) (Kd.Zw ho0)) (Kd.Zw ho1)) (fun _ h_ => h_.1)); replace HO1180 := Yt.mk (Kd.Zv (Kd.Yl (Kd.Yl (Kd.R_old (Qr1 HO1180.out) hb) (Kd.Zw ho0)) (Kd.Zw ho1)) (fun _ h_ => h_.1)); replace HO1182 := Yt.mk (Kd.Zv (Kd.Yl (Kd.Yl (Kd.R_old (Qr1 HO1182.out) hb) (Kd.Zw ho0)) (Kd.Zw ho1)) (fun _ h_ => h_.1)); replace BK1164 := Yt.mk (Zq (g := gb1164) (o := .cells #[.bool false, .slice none 0 0, .slice none 0 0] 50 (0, 0)) (Qr12 BK1164.out) hb); replace HB := Yt.mk (Zm (Qa0) hb); (try clear hb); (try clear ho0); (try clear ho1); obtain ⟨Ao35, co35, eo35⟩ := Kd.Zx HO1180.out; subst eo35; have hcz36_0 : w34.cell? ⟨gb1164, 0, none⟩ = some (.bool false) := (Zl BK1164.out 0).trans rfl; have hcz36_1 : w34.cell? ⟨gb1164, 1, none⟩ = some (.slice none 0 0) := (Zl BK1164.out 1).trans rfl; have hcz36_2 : w34.cell? ⟨gb1164, 2, none⟩ = some (.slice none 0 0) := (Zl BK1164.out 2).trans rfl; have hfz36_0 := Zn BK1164.out 0; have hfz36_1 := Zn BK1164.out 1; have hfz36_2 := Zn BK1164.out 2))
  refine bodyPost_ret (results_ct rfl _ _ gb1164 50 #[.bool false, .slice none 0 0, .slice none 0 0] (0, 0) _ rfl (by (with_reducible repeat (first | refine Zg ?_ _ | refine Zi ?_ | refine Zh ?_ _)); refine Ym (cs := #[.bool false, .slice none 0 0, .slice none 0 0]) ?_ 2 _ rfl; (with_reducible repeat (first | refine Zg ?_ _ | refine Zi ?_ | refine Zh ?_ _)); refine Ym (cs := #[.bool false, .slice none 0 0, .slice none 0 0]) ?_ 1 _ rfl; (with_reducible repeat (first | refine Zg ?_ _ | refine Zi ?_ | refine Zh ?_ _)); refine Ym (cs := #[.bool false, .slice none 0 0, .slice none 0 0]) ?_ 0 _ rfl; (with_reducible repeat (first | refine Zg ?_ _ | refine Zi ?_ | refine Zh ?_ _)); exact BK1164.out) Try.underlying50 rfl Qa7) rfl ?_
  exact ⟨_, _, Qa4, by first | exact Kd.R_nil _ _ _ _ _ | exact Kd.N_nil _ _ _ _ _ | exact Kd.V_nil _ _ _ _ _ | exact Kd.Q_nil _ _ _ _ _ | exact Kd.S_nil _ _ _ _ _, by first | exact Kd.R_nil _ _ _ _ _ | exact Kd.N_nil _ _ _ _ _ | exact Kd.V_nil _ _ _ _ _ | exact Kd.Q_nil _ _ _ _ _ | exact Kd.S_nil _ _ _ _ _, Qa0⟩
 rw [if_neg c25] at H
 have c25b0 : decide (16 < (t1177.length : Int)) = false := decide_eq_false c25
 have c25b1 : decide (16 < t1177.length) = false := decide_eq_false (by omega)
 clear c25
 by_cases c37 : (t1183.length : Int) > 16
 ·rw [if_pos c37] at H
  have c37b0 : decide (16 < (t1183.length : Int)) = true := decide_eq_true c37
  have c37b1 : decide (16 < t1183.length) = true := decide_eq_true (by omega)
  clear c37
  simp only [Option.some.injEq, Prod.mk.injEq] at H
  obtain ⟨rfl, rfl, rfl, rfl⟩ := H
  go_enter Try.func49, Try.ntmps49
  go_wp2_with (first | ((with_reducible refine Yk (N := 6) rfl ?_); (try (refine gate_guard (by rfl) ?_; dsimp only)); refine Yo ?hg (N := 6) ?hd (cs := #[.bool false, .slice none 0 0, .slice none 0 0]) (t := 50) ?hr ?_; (case hd => rfl); (case hg => rfl); (case hr => exact Qa8); intro gb1164 hg w38 hbox hb; have BK1164 := Yt.mk (hbox); have GW1164 := Yt.mk ((by rw [hg]; exact (Zk (Qa0)) : w.heap.size ≤ gb1164)); have GE1164 := Yt.mk ((by rw [hg]; exact (Zk (Qa0)) : w.heap.size ≤ gb1164)); replace HB := Yt.mk (Zm (Qa0) hb); clear hb hbox hg) | ((with_reducible refine Zr (f := 46) rfl ?_); refine Yg (some 12) rfl rfl Try.func46 Qa7 rfl #[.slice A1 l1.length c1] rfl Qa2 ?_; (with_reducible refine (r1_Trim.calls k _ _ l1 t1165 _ ?side1 ?side2 A4.out).mono ?_); (case side1 => exact Qe9 (Kd.Ys HR1.out HB.out)); (case side2 => exact HC1.out); rintro e w39 ⟨v1166, rfl, ho0, hb⟩; refine ⟨_, rfl, ?_⟩; have HO1167 := Yt.mk (Kd.Yb ho0 (Zk (Qa0))); replace BK1164 := Yt.mk (Zq (g := gb1164) (o := .cells #[.bool false, .slice none 0 0, .slice none 0 0] 50 (0, 0)) (Qr12 BK1164.out) hb); replace HB := Yt.mk (Zm (Qa0) hb); (try clear hb); (try clear ho0)) | ((with_reducible refine Zr (f := 46) rfl ?_); refine Yg (some 14) rfl rfl Try.func46 Qa7 rfl #[.slice A2 l2.length c2] rfl Qa2 ?_; (with_reducible refine (r1_Trim.calls k _ _ l2 t1168 _ ?side1 ?side2 A5.out).mono ?_); (case side1 => exact Qe9 (Kd.Ys HR2.out HB.out)); (case side2 => exact HC2.out); rintro e w40 ⟨v1169, rfl, ho0, hb⟩; refine ⟨_, rfl, ?_⟩; have HO1170 := Yt.mk (Kd.Yb (Kd.Ya ho0 (Kd.R_lt (Qr1 HO1167.out))) (Zk (Qa0))); replace HO1167 := Yt.mk (Kd.Yf (Qr1 HO1167.out) (Kd.Zw ho0) hb); replace BK1164 := Yt.mk (Zq (g := gb1164) (o := .cells #[.bool false, .slice none 0 0, .slice none 0 0] 50 (0, 0)) (Qr12 BK1164.out) hb); replace HB := Yt.mk (Zm (Qa0) hb); (try clear hb); (try clear ho0); obtain ⟨Ao41, co41, eo41⟩ := Kd.Zx HO1170.out; subst eo41; obtain ⟨Ao42, co42, eo42⟩ := Kd.Zx HO1167.out; subst eo42) | ((with_reducible refine Zr (f := 41) rfl ?_); refine Yg (some 26) rfl rfl Try.func41 Qa7 rfl #[.slice Ao42 t1165.length co42, .slice Ao41 t1168.length co41] rfl Qa2 ?_; (with_reducible refine (r1_Common.calls k _ _ t1165 _ _ t1168 t1174 _ ?side1 ?side2 ?side3 ?side4 A22.out).mono ?_); (case side1 => exact Qe9 (Kd.Zs HO1167.out).2.2); (case side2 => exact (Kd.Zs HO1167.out).2.1); (case side3 => exact Qe9 (Kd.Zs HO1170.out).2.2); (case side4 => exact (Kd.Zs HO1170.out).2.1); rintro e w43 ⟨v1175, rfl, ho0, hb⟩; refine ⟨_, rfl, ?_⟩; have HO1176 := Yt.mk (Kd.Yb (Kd.Ya (Kd.Ya ho0 (Kd.R_lt (Qr1 HO1167.out))) (Kd.R_lt (Qr1 HO1170.out))) (Zk (Qa0))); replace HO1167 := Yt.mk (Kd.Yf (Qr1 HO1167.out) (Kd.Zw ho0) hb); replace HO1170 := Yt.mk (Kd.Yf (Qr1 HO1170.out) (Kd.Zw ho0) hb); replace BK1164 := Yt.mk (Zq (g := gb1164) (o := .cells #[.bool false, .slice none 0 0, .slice none 0 0] 50 (0, 0)) (Qr12 BK1164.out) hb); replace HB := Yt.mk (Zm (Qa0) hb); (try clear hb); (try clear ho0); obtain ⟨Ao44, co44, eo44⟩ := Kd.Zx HO1176.out; subst eo44) | ((with_reducible refine Zr (f := 28) rfl ?_); refine Yg (some 30) rfl rfl Try.func28 Qa7 rfl #[.slice Ao42 t1165.length co42, .slice Ao44 t1174.length co44] rfl Qa2 ?_; (with_reducible refine (r1_Divide.calls k _ _ t1165 _ _ t1174 t1177 t1178 _ ?side1 ?side2 ?side3 ?side4 A23.out).mono ?_); (case side1 => exact Qe9 (Kd.Zs HO1167.out).2.2); (case side2 => exact (Kd.Zs HO1167.out).2.1); (case side3 => exact Qe9 (Kd.Zs HO1176.out).2.2); (case side4 => exact (Kd.Zs HO1176.out).2.1); rintro e w45 ⟨v1179, v1181, rfl, ho0, ho1, hb⟩; refine ⟨_, rfl, ?_⟩; have HO1180 := Yt.mk (Kd.Yb (Kd.Ya (Kd.Ya (Kd.Ya ho0 (Kd.R_lt (Qr1 HO1167.out))) (Kd.R_lt (Qr1 HO1170.out))) (Kd.R_lt (Qr1 HO1176.out))) (Zk (Qa0))); have HO1182 := Yt.mk (Kd.Yb (Kd.Ya (Kd.Ya (Kd.Ya ho1 (Kd.R_lt (Qr1 HO1167.out))) (Kd.R_lt (Qr1 HO1170.out))) (Kd.R_lt (Qr1 HO1176.out))) (Zk (Qa0))); replace HO1167 := Yt.mk (Kd.Zv (Kd.Yl (Kd.Yl (Kd.R_old (Qr1 HO1167.out) hb) (Kd.Zw ho0)) (Kd.Zw ho1)) (fun _ h_ => h_.1)); replace HO1170 := Yt.mk (Kd.Zv (Kd.Yl (Kd.Yl (Kd.R_old (Qr1 HO1170.out) hb) (Kd.Zw ho0)) (Kd.Zw ho1)) (fun _ h_ => h_.1)); replace HO1176 := Yt.mk (Kd.Zv (Kd.Yl (Kd.Yl (Kd.R_old (Qr1 HO1176.out) hb) (Kd.Zw ho0)) (Kd.Zw ho1)) (fun _ h_ => h_.1)); replace BK1164 := Yt.mk (Zq (g := gb1164) (o := .cells #[.bool false, .slice none 0 0, .slice none 0 0] 50 (0, 0)) (Qr12 BK1164.out) hb); replace HB := Yt.mk (Zm (Qa0) hb); (try clear hb); (try clear ho0); (try clear ho1)) | ((with_reducible refine Zr (f := 28) rfl ?_); refine Yg (some 36) rfl rfl Try.func28 Qa7 rfl #[.slice Ao41 t1168.length co41, .slice Ao44 t1174.length co44] rfl Qa2 ?_; (with_reducible refine (r1_Divide.calls k _ _ t1168 _ _ t1174 t1183 t1184 _ ?side1 ?side2 ?side3 ?side4 A24.out).mono ?_); (case side1 => exact Qe9 (Kd.Zs HO1170.out).2.2); (case side2 => exact (Kd.Zs HO1170.out).2.1); (case side3 => exact Qe9 (Kd.Zs HO1176.out).2.2); (case side4 => exact (Kd.Zs HO1176.out).2.1); rintro e w46 ⟨v1185, v1187, rfl, ho0, ho1, hb⟩; refine ⟨_, rfl, ?_⟩; have HO1186 := Yt.mk (Kd.Yb (Kd.Ya (Kd.Ya (Kd.Ya (Kd.Ya (Kd.Ya ho0 (Kd.R_lt (Qr1 HO1167.out))) (Kd.R_lt (Qr1 HO1170.out))) (Kd.R_lt (Qr1 HO1176.out))) (Kd.R_lt (Qr1 HO1180.out))) (Kd.R_lt (Qr1 HO1182.out))) (Zk (Qa0))); have HO1188 := Yt.mk (Kd.Yb (Kd.Ya (Kd.Ya (Kd.Ya (Kd.Ya (Kd.Ya ho1 (Kd.R_lt (Qr1 HO1167.out))) (Kd.R_lt (Qr1 HO1170.out))) (Kd.R_lt (Qr1 HO1176.out))) (Kd.R_lt (Qr1 HO1180.out))) (Kd.R_lt (Qr1 HO1182.out))) (Zk (Qa0))); replace HO1167 := Yt.mk (Kd.Zv (Kd.Yl (Kd.Yl (Kd.R_old (Qr1 HO1167.out) hb) (Kd.Zw ho0)) (Kd.Zw ho1)) (fun _ h_ => h_.1)); replace HO1170 := Yt.mk (Kd.Zv (Kd.Yl (Kd.Yl (Kd.R_old (Qr1 HO1170.out) hb) (Kd.Zw ho0)) (Kd.Zw ho1)) (fun _ h_ => h_.1)); replace HO1176 := Yt.mk (Kd.Zv (Kd.Yl (Kd.Yl (Kd.R_old (Qr1 HO1176.out) hb) (Kd.Zw ho0)) (Kd.Zw ho1)) (fun _ h_ => h_.1)); replace HO1180 := Yt.mk (Kd.Zv (Kd.Yl (Kd.Yl (Kd.R_old (Qr1 HO1180.out) hb) (Kd.Zw ho0)) (Kd.Zw ho1)) (fun _ h_ => h_.1)); replace HO1182 := Yt.mk (Kd.Zv (Kd.Yl (Kd.Yl (Kd.R_old (Qr1 HO1182.out) hb) (Kd.Zw ho0)) (Kd.Zw ho1)) (fun _ h_ => h_.1)); replace BK1164 := Yt.mk (Zq (g := gb1164) (o := .cells #[.bool false, .slice none 0 0, .slice none 0 0] 50 (0, 0)) (Qr12 BK1164.out) hb); replace HB := Yt.mk (Zm (Qa0) hb); (try clear hb); (try clear ho0); (try clear ho1); obtain ⟨Ao47, co47, eo47⟩ := Kd.Zx HO1180.out; subst eo47; obtain ⟨Ao48, co48, eo48⟩ := Kd.Zx HO1186.out; subst eo48; have hcz49_0 : w46.cell? ⟨gb1164, 0, none⟩ = some (.bool false) := (Zl BK1164.out 0).trans rfl; have hcz49_1 : w46.cell? ⟨gb1164, 1, none⟩ = some (.slice none 0 0) := (Zl BK1164.out 1).trans rfl; have hcz49_2 : w46.cell? ⟨gb1164, 2, none⟩ = some (.slice none 0 0) := (Zl BK1164.out 2).trans rfl; have hfz49_0 := Zn BK1164.out 0; have hfz49_1 := Zn BK1164.out 1; have hfz49_2 := Zn BK1164.out 2))
  refine bodyPost_ret (results_ct rfl _ _ gb1164 50 #[.bool false, .slice none 0 0, .slice none 0 0] (0, 0) _ rfl (by (with_reducible repeat (first | refine Zg ?_ _ | refine Zi ?_ | refine Zh ?_ _)); refine Ym (cs := #[.bool false, .slice none 0 0, .slice none 0 0]) ?_ 2 _ rfl; (with_reducible repeat (first | refine Zg ?_ _ | refine Zi ?_ | refine Zh ?_ _)); refine Ym (cs := #[.bool false, .slice none 0 0, .slice none 0 0]) ?_ 1 _ rfl; (with_reducible repeat (first | refine Zg ?_ _ | refine Zi ?_ | refine Zh ?_ _)); refine Ym (cs := #[.bool false, .slice none 0 0, .slice none 0 0]) ?_ 0 _ rfl; (with_reducible repeat (first | refine Zg ?_ _ | refine Zi ?_ | refine Zh ?_ _)); exact BK1164.out) Try.underlying50 rfl Qa7) rfl ?_
  exact ⟨_, _, Qa4, by first | exact Kd.R_nil _ _ _ _ _ | exact Kd.N_nil _ _ _ _ _ | exact Kd.V_nil _ _ _ _ _ | exact Kd.Q_nil _ _ _ _ _ | exact Kd.S_nil _ _ _ _ _, by first | exact Kd.R_nil _ _ _ _ _ | exact Kd.N_nil _ _ _ _ _ | exact Kd.V_nil _ _ _ _ _ | exact Kd.Q_nil _ _ _ _ _ | exact Kd.S_nil _ _ _ _ _, Qa0⟩
 rw [if_neg c37] at H
 have c37b0 : decide (16 < (t1183.length : Int)) = false := decide_eq_false c37
 have c37b1 : decide (16 < t1183.length) = false := decide_eq_false (by omega)
 clear c37
 simp only [Option.some.injEq, Prod.mk.injEq] at H
 obtain ⟨rfl, rfl, rfl, rfl⟩ := H
 go_enter Try.func49, Try.ntmps49
 go_wp2_with (first | ((with_reducible refine Yk (N := 6) rfl ?_); (try (refine gate_guard (by rfl) ?_; dsimp only)); refine Yo ?hg (N := 6) ?hd (cs := #[.bool false, .slice none 0 0, .slice none 0 0]) (t := 50) ?hr ?_; (case hd => rfl); (case hg => rfl); (case hr => exact Qa8); intro gb1164 hg w50 hbox hb; have BK1164 := Yt.mk (hbox); have GW1164 := Yt.mk ((by rw [hg]; exact (Zk (Qa0)) : w.heap.size ≤ gb1164)); have GE1164 := Yt.mk ((by rw [hg]; exact (Zk (Qa0)) : w.heap.size ≤ gb1164)); replace HB := Yt.mk (Zm (Qa0) hb); clear hb hbox hg) | ((with_reducible refine Zr (f := 46) rfl ?_); refine Yg (some 12) rfl rfl Try.func46 Qa7 rfl #[.slice A1 l1.length c1] rfl Qa2 ?_; (with_reducible refine (r1_Trim.calls k _ _ l1 t1165 _ ?side1 ?side2 A4.out).mono ?_); (case side1 => exact Qe9 (Kd.Ys HR1.out HB.out)); (case side2 => exact HC1.out); rintro e w51 ⟨v1166, rfl, ho0, hb⟩; refine ⟨_, rfl, ?_⟩; have HO1167 := Yt.mk (Kd.Yb ho0 (Zk (Qa0))); replace BK1164 := Yt.mk (Zq (g := gb1164) (o := .cells #[.bool false, .slice none 0 0, .slice none 0 0] 50 (0, 0)) (Qr12 BK1164.out) hb); replace HB := Yt.mk (Zm (Qa0) hb); (try clear hb); (try clear ho0)) | ((with_reducible refine Zr (f := 46) rfl ?_); refine Yg (some 14) rfl rfl Try.func46 Qa7 rfl #[.slice A2 l2.length c2] rfl Qa2 ?_; (with_reducible refine (r1_Trim.calls k _ _ l2 t1168 _ ?side1 ?side2 A5.out).mono ?_); (case side1 => exact Qe9 (Kd.Ys HR2.out HB.out)); (case side2 => exact HC2.out); rintro e w52 ⟨v1169, rfl, ho0, hb⟩; refine ⟨_, rfl, ?_⟩; have HO1170 := Yt.mk (Kd.Yb (Kd.Ya ho0 (Kd.R_lt (Qr1 HO1167.out))) (Zk (Qa0))); replace HO1167 := Yt.mk (Kd.Yf (Qr1 HO1167.out) (Kd.Zw ho0) hb); replace BK1164 := Yt.mk (Zq (g := gb1164) (o := .cells #[.bool false, .slice none 0 0, .slice none 0 0] 50 (0, 0)) (Qr12 BK1164.out) hb); replace HB := Yt.mk (Zm (Qa0) hb); (try clear hb); (try clear ho0); obtain ⟨Ao53, co53, eo53⟩ := Kd.Zx HO1170.out; subst eo53; obtain ⟨Ao54, co54, eo54⟩ := Kd.Zx HO1167.out; subst eo54) | ((with_reducible refine Zr (f := 41) rfl ?_); refine Yg (some 26) rfl rfl Try.func41 Qa7 rfl #[.slice Ao54 t1165.length co54, .slice Ao53 t1168.length co53] rfl Qa2 ?_; (with_reducible refine (r1_Common.calls k _ _ t1165 _ _ t1168 t1174 _ ?side1 ?side2 ?side3 ?side4 A22.out).mono ?_); (case side1 => exact Qe9 (Kd.Zs HO1167.out).2.2); (case side2 => exact (Kd.Zs HO1167.out).2.1); (case side3 => exact Qe9 (Kd.Zs HO1170.out).2.2); (case side4 => exact (Kd.Zs HO1170.out).2.1); rintro e w55 ⟨v1175, rfl, ho0, hb⟩; refine ⟨_, rfl, ?_⟩; have HO1176 := Yt.mk (Kd.Yb (Kd.Ya (Kd.Ya ho0 (Kd.R_lt (Qr1 HO1167.out))) (Kd.R_lt (Qr1 HO1170.out))) (Zk (Qa0))); replace HO1167 := Yt.mk (Kd.Yf (Qr1 HO1167.out) (Kd.Zw ho0) hb); replace HO1170 := Yt.mk (Kd.Yf (Qr1 HO1170.out) (Kd.Zw ho0) hb); replace BK1164 := Yt.mk (Zq (g := gb1164) (o := .cells #[.bool false, .slice none 0 0, .slice none 0 0] 50 (0, 0)) (Qr12 BK1164.out) hb); replace HB := Yt.mk (Zm (Qa0) hb); (try clear hb); (try clear ho0); obtain ⟨Ao56, co56, eo56⟩ := Kd.Zx HO1176.out; subst eo56) | ((with_reducible refine Zr (f := 28) rfl ?_); refine Yg (some 30) rfl rfl Try.func28 Qa7 rfl #[.slice Ao54 t1165.length co54, .slice Ao56 t1174.length co56] rfl Qa2 ?_; (with_reducible refine (r1_Divide.calls k _ _ t1165 _ _ t1174 t1177 t1178 _ ?side1 ?side2 ?side3 ?side4 A23.out).mono ?_); (case side1 => exact Qe9 (Kd.Zs HO1167.out).2.2); (case side2 => exact (Kd.Zs HO1167.out).2.1); (case side3 => exact Qe9 (Kd.Zs HO1176.out).2.2); (case side4 => exact (Kd.Zs HO1176.out).2.1); rintro e w57 ⟨v1179, v1181, rfl, ho0, ho1, hb⟩; refine ⟨_, rfl, ?_⟩; have HO1180 := Yt.mk (Kd.Yb (Kd.Ya (Kd.Ya (Kd.Ya ho0 (Kd.R_lt (Qr1 HO1167.out))) (Kd.R_lt (Qr1 HO1170.out))) (Kd.R_lt (Qr1 HO1176.out))) (Zk (Qa0))); have HO1182 := Yt.mk (Kd.Yb (Kd.Ya (Kd.Ya (Kd.Ya ho1 (Kd.R_lt (Qr1 HO1167.out))) (Kd.R_lt (Qr1 HO1170.out))) (Kd.R_lt (Qr1 HO1176.out))) (Zk (Qa0))); replace HO1167 := Yt.mk (Kd.Zv (Kd.Yl (Kd.Yl (Kd.R_old (Qr1 HO1167.out) hb) (Kd.Zw ho0)) (Kd.Zw ho1)) (fun _ h_ => h_.1)); replace HO1170 := Yt.mk (Kd.Zv (Kd.Yl (Kd.Yl (Kd.R_old (Qr1 HO1170.out) hb) (Kd.Zw ho0)) (Kd.Zw ho1)) (fun _ h_ => h_.1)); replace HO1176 := Yt.mk (Kd.Zv (Kd.Yl (Kd.Yl (Kd.R_old (Qr1 HO1176.out) hb) (Kd.Zw ho0)) (Kd.Zw ho1)) (fun _ h_ => h_.1)); replace BK1164 := Yt.mk (Zq (g := gb1164) (o := .cells #[.bool false, .slice none 0 0, .slice none 0 0] 50 (0, 0)) (Qr12 BK1164.out) hb); replace HB := Yt.mk (Zm (Qa0) hb); (try clear hb); (try clear ho0); (try clear ho1)) | ((with_reducible refine Zr (f := 28) rfl ?_); refine Yg (some 36) rfl rfl Try.func28 Qa7 rfl #[.slice Ao53 t1168.length co53, .slice Ao56 t1174.length co56] rfl Qa2 ?_; (with_reducible refine (r1_Divide.calls k _ _ t1168 _ _ t1174 t1183 t1184 _ ?side1 ?side2 ?side3 ?side4 A24.out).mono ?_); (case side1 => exact Qe9 (Kd.Zs HO1170.out).2.2); (case side2 => exact (Kd.Zs HO1170.out).2.1); (case side3 => exact Qe9 (Kd.Zs HO1176.out).2.2); (case side4 => exact (Kd.Zs HO1176.out).2.1); rintro e w58 ⟨v1185, v1187, rfl, ho0, ho1, hb⟩; refine ⟨_, rfl, ?_⟩; have HO1186 := Yt.mk (Kd.Yb (Kd.Ya (Kd.Ya (Kd.Ya (Kd.Ya (Kd.Ya ho0 (Kd.R_lt (Qr1 HO1167.out))) (Kd.R_lt (Qr1 HO1170.out))) (Kd.R_lt (Qr1 HO1176.out))) (Kd.R_lt (Qr1 HO1180.out))) (Kd.R_lt (Qr1 HO1182.out))) (Zk (Qa0))); have HO1188 := Yt.mk (Kd.Yb (Kd.Ya (Kd.Ya (Kd.Ya (Kd.Ya (Kd.Ya ho1 (Kd.R_lt (Qr1 HO1167.out))) (Kd.R_lt (Qr1 HO1170.out))) (Kd.R_lt (Qr1 HO1176.out))) (Kd.R_lt (Qr1 HO1180.out))) (Kd.R_lt (Qr1 HO1182.out))) (Zk (Qa0))); replace HO1167 := Yt.mk (Kd.Zv (Kd.Yl (Kd.Yl (Kd.R_old (Qr1 HO1167.out) hb) (Kd.Zw ho0)) (Kd.Zw ho1)) (fun _ h_ => h_.1)); replace HO1170 := Yt.mk (Kd.Zv (Kd.Yl (Kd.Yl (Kd.R_old (Qr1 HO1170.out) hb) (Kd.Zw ho0)) (Kd.Zw ho1)) (fun _ h_ => h_.1)); replace HO1176 := Yt.mk (Kd.Zv (Kd.Yl (Kd.Yl (Kd.R_old (Qr1 HO1176.out) hb) (Kd.Zw ho0)) (Kd.Zw ho1)) (fun _ h_ => h_.1)); replace HO1180 := Yt.mk (Kd.Zv (Kd.Yl (Kd.Yl (Kd.R_old (Qr1 HO1180.out) hb) (Kd.Zw ho0)) (Kd.Zw ho1)) (fun _ h_ => h_.1)); replace HO1182 := Yt.mk (Kd.Zv (Kd.Yl (Kd.Yl (Kd.R_old (Qr1 HO1182.out) hb) (Kd.Zw ho0)) (Kd.Zw ho1)) (fun _ h_ => h_.1)); replace BK1164 := Yt.mk (Zq (g := gb1164) (o := .cells #[.bool false, .slice none 0 0, .slice none 0 0] 50 (0, 0)) (Qr12 BK1164.out) hb); replace HB := Yt.mk (Zm (Qa0) hb); (try clear hb); (try clear ho0); (try clear ho1); obtain ⟨Ao59, co59, eo59⟩ := Kd.Zx HO1180.out; subst eo59; obtain ⟨Ao60, co60, eo60⟩ := Kd.Zx HO1186.out; subst eo60; have hcz61_0 : w58.cell? ⟨gb1164, 0, none⟩ = some (.bool false) := (Zl BK1164.out 0).trans rfl; have hcz61_1 : w58.cell? ⟨gb1164, 1, none⟩ = some (.slice none 0 0) := (Zl BK1164.out 1).trans rfl; have hcz61_2 : w58.cell? ⟨gb1164, 2, none⟩ = some (.slice none 0 0) := (Zl BK1164.out 2).trans rfl; have hfz61_0 := Zn BK1164.out 0; have hfz61_1 := Zn BK1164.out 1; have hfz61_2 := Zn BK1164.out 2))
 refine bodyPost_ret (results_ct rfl _ _ gb1164 50 #[.bool a0, .slice Ao59 t1177.length co59, .slice Ao60 t1183.length co60] (0, 0) _ rfl (by (with_reducible repeat (first | refine Zg ?_ _ | refine Zi ?_ | refine Zh ?_ _)); refine Ym (cs := #[.bool a0, .slice Ao59 t1177.length co59, .slice none 0 0]) ?_ 2 _ rfl; (with_reducible repeat (first | refine Zg ?_ _ | refine Zi ?_ | refine Zh ?_ _)); refine Ym (cs := #[.bool a0, .slice none 0 0, .slice none 0 0]) ?_ 1 _ rfl; (with_reducible repeat (first | refine Zg ?_ _ | refine Zi ?_ | refine Zh ?_ _)); refine Ym (cs := #[.bool false, .slice none 0 0, .slice none 0 0]) ?_ 0 _ rfl; (with_reducible repeat (first | refine Zg ?_ _ | refine Zi ?_ | refine Zh ?_ _)); exact BK1164.out) Try.underlying50 rfl Qa7) rfl ?_
 exact ⟨_, _, Qa4, by (with_reducible repeat (first | apply Kd.Zf | apply Kd.Ze | apply Kd.Zj)); exact Kd.Zv (Kd.Yh (p := ⟨gb1164, 2, none⟩) (Kd.Yh (p := ⟨gb1164, 1, none⟩) (Kd.Yh (p := ⟨gb1164, 0, none⟩) (Kd.Yq HO1180.out BK1164.out (by decide)) (fun _ hk => hk.2) (.bool a0)) (fun _ hk => hk.2) (.slice Ao59 t1177.length co59)) (fun _ hk => hk.2) (.slice Ao60 t1183.length co60)) (fun _ hk => hk.1.1.2), by (with_reducible repeat (first | apply Kd.Zf | apply Kd.Ze | apply Kd.Zj)); exact Kd.Zv (Kd.Yh (p := ⟨gb1164, 2, none⟩) (Kd.Yh (p := ⟨gb1164, 1, none⟩) (Kd.Yh (p := ⟨gb1164, 0, none⟩) (Kd.Yq HO1186.out BK1164.out (by decide)) (fun _ hk => hk.2) (.bool a0)) (fun _ hk => hk.2) (.slice Ao59 t1177.length co59)) (fun _ hk => hk.2) (.slice Ao60 t1183.length co60)) (fun _ hk => hk.1.1.2), Qa0⟩
def r1_Digits.l0 : Nat → ByteArray → Int → Option (Bool)
 | 0, _, _ => none
 | k + 1, x0, x3 => if x3 < (x0.size : Int) then (if 0 ≤ x3 then (if (bt x0 x3) < 48 then (some false) else (if (bt x0 x3) > 57 then (some false) else (r1_Digits.l0 k x0 (wrap64 (x3 + 1))))) else (none)) else (some (decide (0 < x0.size)))
def r1_Digits.f (k : Nat) (a0 : ByteArray) : Option (Bool) := r1_Digits.l0 k a0 0
theorem r1_Digits.calls (k : Nat) (a0 : ByteArray) (r : Bool) (w : World) (h : r1_Digits.f k a0 = some r) :
  Calls Try.prog 88 #[.string a0] w fun e w' => e = .returned (.bool r) ∧ Drawn0 w w' := by
 unfold r1_Digits.f at h
 have H := h
 clear h
 have H' := Yt.mk H
 clear H
 go_enter Try.func88, Try.ntmps88
 go_wp2
 go_loopg [3] k (fun kq v3 w' => ∃ (x3_1 : Int), v3 = .int .i64 x3_1 ∧ Yt (r1_Digits.l0 kq a0 x3_1 = some r) ∧ Yt (kq ≤ k) ∧ Drawn0 w w')
 case atStart => exact ⟨(0), Qa5, H', ⟨Nat.le_refl _⟩, Qa10⟩
 case round =>
  clear H'
  obtain ⟨x3_1, rfl, HA, HK1, ⟨m1, rfl⟩⟩ := hrel
  cases gk with
  | zero => exact absurd HA.out (by simp [r1_Digits.l0])
  | succ k1 =>
   have H := HA.out
   clear HA
   simp only [r1_Digits.l0] at H
   by_cases c2 : x3_1 < (a0.size : Int)
   rotate_left
   ·rw [if_neg c2] at H
    have c2b0 : decide (x3_1 < (a0.size : Int)) = false := decide_eq_false c2
    clear c2
    obtain rfl := Option.some.inj H
    go_wp2
    go_ret
    exact ⟨by first | rfl | (simp; done) | (simp [*]; done), Qa10⟩
   rw [if_pos c2] at H
   have c2b0 : decide (x3_1 < (a0.size : Int)) = true := decide_eq_true c2
   clear c2
   by_cases c3 : 0 ≤ x3_1
   rotate_left
   ·rw [if_neg c3] at H
    exact absurd H (by simp)
   rw [if_pos c3] at H
   have c3b0 : decide (0 ≤ x3_1) = true := decide_eq_true c3
   clear c3
   by_cases c5 : (bt a0 x3_1) < 48
   ·rw [if_pos c5] at H
    have c5b0 : decide ((bt a0 x3_1) < 48) = true := decide_eq_true c5
    clear c5
    obtain rfl := Option.some.inj H
    have p4 : 0 ≤ (x3_1 : Int) := Qd
    have q4 : x3_1 < (a0.size : Int) := Qd
    have hx4 := bt_at a0 x3_1
    replace p4 := eq_true p4
    replace q4 := eq_true q4
    go_wp2
    go_ret
    exact ⟨by first | rfl | (simp; done) | (simp [*]; done), Qa10⟩
   rw [if_neg c5] at H
   have c5b0 : decide ((bt a0 x3_1) < 48) = false := decide_eq_false c5
   clear c5
   by_cases c7 : (bt a0 x3_1) > 57
   ·rw [if_pos c7] at H
    have c7b0 : decide (57 < (bt a0 x3_1)) = true := decide_eq_true c7
    clear c7
    obtain rfl := Option.some.inj H
    have p4 : 0 ≤ (x3_1 : Int) := Qd
    have q4 : x3_1 < (a0.size : Int) := Qd
    have hx4 := bt_at a0 x3_1
    replace p4 := eq_true p4
    replace q4 := eq_true q4
    have p6 : 0 ≤ (x3_1 : Int) := Qd
    have q6 : x3_1 < (a0.size : Int) := Qd
    have hx6 := bt_at a0 x3_1
    replace p6 := eq_true p6
    replace q6 := eq_true q6
    go_wp2
    go_ret
    exact ⟨by first | rfl | (simp; done) | (simp [*]; done), Qa10⟩
   rw [if_neg c7] at H
   have c7b0 : decide (57 < (bt a0 x3_1)) = false := decide_eq_false c7
   clear c7
   have H' := Yt.mk H
   clear H
   have p4 : 0 ≤ (x3_1 : Int) := Qd
   have q4 : x3_1 < (a0.size : Int) := Qd
   have hx4 := bt_at a0 x3_1
   replace p4 := eq_true p4
   replace q4 := eq_true q4
   have p6 : 0 ≤ (x3_1 : Int) := Qd
   have q6 : x3_1 < (a0.size : Int) := Qd
   have hx6 := bt_at a0 x3_1
   replace p6 := eq_true p6
   replace q6 := eq_true q6
   go_wp2
   go_roundg k1
   case measure => have := HK1.out; omega
   case rel => exact ⟨(wrap64 (x3_1 + 1)), Qa5, H', ⟨by have := HK1.out; omega⟩, Qa10⟩
end Go.Proofs.Ytgffficaoioljaa.P
end
