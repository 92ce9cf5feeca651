import Derived.Test.YtgffficaoioljaaRk11
import Derived.Laws.Build
import Derived.Laws.NewBlocks
section
namespace Go.Proofs.Ytgffficaoioljaa.P
open Go.RowKit Go.Proofs.YtgffficaoioljaaW.PrintWords Go.Proofs.YtgffficaoioljaaW.PrintLast Go.Proofs.YtgffficaoioljaaW.PrintMore
set_option linter.unusedVariables false
set_option linter.unusedSimpArgs false
set_option maxRecDepth 100000 in
theorem ratio_class.at43 (w : World) : Calls Try.prog 99 #[.int .u8 43] w fun e w' => e = .returned (.int .i64 1) ∧ ∃ o, w' = w.alloc o := by
 go_enter Try.func99, Try.ntmps99
 go_wp2
 go_ret
 exact ⟨rfl, _, rfl⟩
set_option maxRecDepth 100000 in
theorem ratio_class.at44 (w : World) : Calls Try.prog 99 #[.int .u8 44] w fun e w' => e = .returned (.int .i64 0) ∧ ∃ o, w' = w.alloc o := by
 go_enter Try.func99, Try.ntmps99
 go_wp2
 go_ret
 exact ⟨rfl, _, rfl⟩
set_option maxRecDepth 100000 in
theorem ratio_class.at45 (w : World) : Calls Try.prog 99 #[.int .u8 45] w fun e w' => e = .returned (.int .i64 1) ∧ ∃ o, w' = w.alloc o := by
 go_enter Try.func99, Try.ntmps99
 go_wp2
 go_ret
 exact ⟨rfl, _, rfl⟩
set_option maxRecDepth 100000 in
theorem ratio_class.at46 (w : World) : Calls Try.prog 99 #[.int .u8 46] w fun e w' => e = .returned (.int .i64 0) ∧ ∃ o, w' = w.alloc o := by
 go_enter Try.func99, Try.ntmps99
 go_wp2
 go_ret
 exact ⟨rfl, _, rfl⟩
set_option maxRecDepth 100000 in
theorem ratio_class.at47 (w : World) : Calls Try.prog 99 #[.int .u8 47] w fun e w' => e = .returned (.int .i64 3) ∧ ∃ o, w' = w.alloc o := by
 go_enter Try.func99, Try.ntmps99
 go_wp2
 go_ret
 exact ⟨rfl, _, rfl⟩
set_option maxRecDepth 100000 in
theorem ratio_class.at48 (w : World) : Calls Try.prog 99 #[.int .u8 48] w fun e w' => e = .returned (.int .i64 2) ∧ ∃ o, w' = w.alloc o := by
 go_enter Try.func99, Try.ntmps99
 go_wp2
 go_ret
 exact ⟨rfl, _, rfl⟩
set_option maxRecDepth 100000 in
theorem ratio_class.at49 (w : World) : Calls Try.prog 99 #[.int .u8 49] w fun e w' => e = .returned (.int .i64 2) ∧ ∃ o, w' = w.alloc o := by
 go_enter Try.func99, Try.ntmps99
 go_wp2
 go_ret
 exact ⟨rfl, _, rfl⟩
set_option maxRecDepth 100000 in
theorem ratio_class.at50 (w : World) : Calls Try.prog 99 #[.int .u8 50] w fun e w' => e = .returned (.int .i64 2) ∧ ∃ o, w' = w.alloc o := by
 go_enter Try.func99, Try.ntmps99
 go_wp2
 go_ret
 exact ⟨rfl, _, rfl⟩
set_option maxRecDepth 100000 in
theorem ratio_class.at51 (w : World) : Calls Try.prog 99 #[.int .u8 51] w fun e w' => e = .returned (.int .i64 2) ∧ ∃ o, w' = w.alloc o := by
 go_enter Try.func99, Try.ntmps99
 go_wp2
 go_ret
 exact ⟨rfl, _, rfl⟩
set_option maxRecDepth 100000 in
theorem ratio_class.at52 (w : World) : Calls Try.prog 99 #[.int .u8 52] w fun e w' => e = .returned (.int .i64 2) ∧ ∃ o, w' = w.alloc o := by
 go_enter Try.func99, Try.ntmps99
 go_wp2
 go_ret
 exact ⟨rfl, _, rfl⟩
set_option maxRecDepth 100000 in
theorem ratio_class.at53 (w : World) : Calls Try.prog 99 #[.int .u8 53] w fun e w' => e = .returned (.int .i64 2) ∧ ∃ o, w' = w.alloc o := by
 go_enter Try.func99, Try.ntmps99
 go_wp2
 go_ret
 exact ⟨rfl, _, rfl⟩
set_option maxRecDepth 100000 in
theorem ratio_class.at54 (w : World) : Calls Try.prog 99 #[.int .u8 54] w fun e w' => e = .returned (.int .i64 2) ∧ ∃ o, w' = w.alloc o := by
 go_enter Try.func99, Try.ntmps99
 go_wp2
 go_ret
 exact ⟨rfl, _, rfl⟩
set_option maxRecDepth 100000 in
theorem ratio_class.at55 (w : World) : Calls Try.prog 99 #[.int .u8 55] w fun e w' => e = .returned (.int .i64 2) ∧ ∃ o, w' = w.alloc o := by
 go_enter Try.func99, Try.ntmps99
 go_wp2
 go_ret
 exact ⟨rfl, _, rfl⟩
set_option maxRecDepth 100000 in
theorem ratio_class.at56 (w : World) : Calls Try.prog 99 #[.int .u8 56] w fun e w' => e = .returned (.int .i64 2) ∧ ∃ o, w' = w.alloc o := by
 go_enter Try.func99, Try.ntmps99
 go_wp2
 go_ret
 exact ⟨rfl, _, rfl⟩
set_option maxRecDepth 100000 in
theorem ratio_class.at57 (w : World) : Calls Try.prog 99 #[.int .u8 57] w fun e w' => e = .returned (.int .i64 2) ∧ ∃ o, w' = w.alloc o := by
 go_enter Try.func99, Try.ntmps99
 go_wp2
 go_ret
 exact ⟨rfl, _, rfl⟩
set_option maxRecDepth 100000 in
theorem ratio_class.low (a0 : Int) (h : a0 < 43) (w : World) : Calls Try.prog 99 #[.int .u8 a0] w fun e w' => e = .returned (.int .i64 0) ∧ ∃ o, w' = w.alloc o := by
 have h0 : decide (a0 < 43) = true := decide_eq_true h
 go_enter Try.func99, Try.ntmps99
 go_wp2
 go_ret
 exact ⟨rfl, _, rfl⟩
set_option maxRecDepth 100000 in
theorem ratio_class.high (a0 : Int) (h : 57 < a0) (w : World) : Calls Try.prog 99 #[.int .u8 a0] w fun e w' => e = .returned (.int .i64 0) ∧ ∃ o, w' = w.alloc o := by
 have h0 : decide (a0 < 43) = false := decide_eq_false (by omega)
 have h1 : decide (57 < a0) = true := decide_eq_true h
 go_enter Try.func99, Try.ntmps99
 go_wp2
 go_ret
 exact ⟨rfl, _, rfl⟩
def ratio_class.tab : Nat → Int
 | 0 => 1 | 2 => 1 | 4 => 3 | 5 => 2 | 6 => 2 | 7 => 2 | 8 => 2 | 9 => 2 | 10 => 2 | 11 => 2 | 12 => 2 | 13 => 2 | 14 => 2 | _ => 0
def ratio_class.f (a0 : Int) : Option Int := if a0 < 43 then some 0 else if 57 < a0 then some 0 else some (ratio_class.tab (a0 - 43).toNat)
theorem ratio_class.calls (a0 : Int) (r : Int) (w : World) (h : ratio_class.f a0 = some r) :
  Calls Try.prog 99 #[.int .u8 a0] w fun e w' => e = .returned (.int .i64 r) ∧ Below w.heap.size w w' := by
 have key : Calls Try.prog 99 #[.int .u8 a0] w fun e w' => e = .returned (.int .i64 r) ∧ ∃ o, w' = w.alloc o := by
  unfold ratio_class.f at h
  by_cases c0 : a0 < 43
  ·rw [if_pos c0] at h
   obtain rfl := Option.some.inj h
   exact ratio_class.low a0 c0 w
  ·rw [if_neg c0] at h
   by_cases c1 : 57 < a0
   ·rw [if_pos c1] at h
    obtain rfl := Option.some.inj h
    exact ratio_class.high a0 c1 w
   ·rw [if_neg c1] at h
    have hc : a0 = 43 ∨ a0 = 44 ∨ a0 = 45 ∨ a0 = 46 ∨ a0 = 47 ∨ a0 = 48 ∨ a0 = 49 ∨ a0 = 50 ∨ a0 = 51 ∨ a0 = 52 ∨ a0 = 53 ∨ a0 = 54 ∨ a0 = 55 ∨ a0 = 56 ∨ a0 = 57 := by omega
    rcases hc with rfl | rfl | rfl | rfl | rfl | rfl | rfl | rfl | rfl | rfl | rfl | rfl | rfl | rfl | rfl
    ·obtain rfl : r = 1 := (Option.some.inj h).symm
     exact ratio_class.at43 w
    ·obtain rfl : r = 0 := (Option.some.inj h).symm
     exact ratio_class.at44 w
    ·obtain rfl : r = 1 := (Option.some.inj h).symm
     exact ratio_class.at45 w
    ·obtain rfl : r = 0 := (Option.some.inj h).symm
     exact ratio_class.at46 w
    ·obtain rfl : r = 3 := (Option.some.inj h).symm
     exact ratio_class.at47 w
    ·obtain rfl : r = 2 := (Option.some.inj h).symm
     exact ratio_class.at48 w
    ·obtain rfl : r = 2 := (Option.some.inj h).symm
     exact ratio_class.at49 w
    ·obtain rfl : r = 2 := (Option.some.inj h).symm
     exact ratio_class.at50 w
    ·obtain rfl : r = 2 := (Option.some.inj h).symm
     exact ratio_class.at51 w
    ·obtain rfl : r = 2 := (Option.some.inj h).symm
     exact ratio_class.at52 w
    ·obtain rfl : r = 2 := (Option.some.inj h).symm
     exact ratio_class.at53 w
    ·obtain rfl : r = 2 := (Option.some.inj h).symm
     exact ratio_class.at54 w
    ·obtain rfl : r = 2 := (Option.some.inj h).symm
     exact ratio_class.at55 w
    ·obtain rfl : r = 2 := (Option.some.inj h).symm
     exact ratio_class.at56 w
    ·obtain rfl : r = 2 := (Option.some.inj h).symm
     exact ratio_class.at57 w
 refine key.mono ?_
 rintro e w' ⟨rfl, o, rfl⟩
 exact ⟨rfl, (Below.refl w.heap.size w).alloc (Nat.le_refl _) o⟩
end Go.Proofs.Ytgffficaoioljaa.P
end
section
namespace Go.Proofs.Ytgffficaoioljaa.P
open Go.RowKit Go.Proofs.YtgffficaoioljaaW.PrintWords Go.Proofs.YtgffficaoioljaaW.PrintLast Go.Proofs.YtgffficaoioljaaW.PrintMore
attribute [local go_sem] max2_int min2_int max_two min_two max_three min_three max_four min_four
set_option linter.unusedVariables false
set_option linter.unusedSimpArgs false
set_option maxHeartbeats 8000000
set_option maxRecDepth 100000
mutual
def ratio_natDigits.l0 : Nat → ByteArray → Int → List Int → Int → Option (List Int × Int × Bool)
 | 0, _, _, _, _ => none
 | k + 1, x0, x1, x7, x8 => if x8 < (x0.size : Int) then (if 0 ≤ x8 then ((ratio_class.f (bt x0 x8)).bind fun t1054 => (ratio_natDigits.j1 k x0 x1 x7 x8 (t1054 == 2))) else (none)) else (ratio_natDigits.j1 k x0 x1 x7 x8 false)
def ratio_natDigits.j1 : Nat → ByteArray → Int → List Int → Int → Bool → Option (List Int × Int × Bool)
 | 0, _, _, _, _, _ => none
 | k + 1, x0, x1, x7, x8, x21 => if x21 = true then (if 0 ≤ x8 then (if x8 < (x0.size : Int) then (if (((bt x0 x8) - 48) % 256) > 0 then ((nats_Push.f k x7 (((bt x0 x8) - 48) % 256)).bind fun t1055 => (ratio_natDigits.l0 k x0 x1 t1055 (wrap64 (x8 + 1)))) else (if (x7.length : Int) > 0 then ((nats_Push.f k x7 (((bt x0 x8) - 48) % 256)).bind fun t1058 => (ratio_natDigits.l0 k x0 x1 t1058 (wrap64 (x8 + 1)))) else (ratio_natDigits.l0 k x0 x1 x7 (wrap64 (x8 + 1))))) else (none)) else (none)) else (some (x7, x8, decide (x8 > x1)))
end
def ratio_natDigits.f (k : Nat) (a0 : ByteArray) (a1 : Int) : Option (List Int × Int × Bool) := ratio_natDigits.l0 k a0 a1 ([] : List Int) a1
theorem ratio_natDigits.mono_l : ∀ k, (∀ y0 y1 y2 y3, LeO (ratio_natDigits.l0 k y0 y1 y2 y3) (ratio_natDigits.l0 (k + 1) y0 y1 y2 y3)) ∧ (∀ y0 y1 y2 y3 y4, LeO (ratio_natDigits.j1 k y0 y1 y2 y3 y4) (ratio_natDigits.j1 (k + 1) y0 y1 y2 y3 y4))
 | 0 => ⟨fun _ _ _ _ r h => by simp [ratio_natDigits.l0] at h, fun _ _ _ _ _ r h => by simp [ratio_natDigits.j1] at h⟩
 | k + 1 => by
  obtain ⟨ih0, ih1⟩ := ratio_natDigits.mono_l k
  refine ⟨?_, ?_⟩
  ·intro y0 y1 y2 y3
   unfold ratio_natDigits.l0
   have m0 := @nats_Push.mono
   exact Qa6
  ·intro y0 y1 y2 y3 y4
   unfold ratio_natDigits.j1
   have m0 := @nats_Push.mono
   exact Qa6
theorem ratio_natDigits.mono : ∀ a0 a1 k, LeO (ratio_natDigits.f k a0 a1) (ratio_natDigits.f (k + 1) a0 a1) := by
 intro a0 a1 k
 obtain ⟨ih0, ih1⟩ := ratio_natDigits.mono_l k
 unfold ratio_natDigits.f
 have m0 := @nats_Push.mono
 exact Qa6
theorem ratio_natDigits.calls (k : Nat) (a0 : ByteArray) (a1 : Int) (r1 : List Int) (r2 : Int) (r3 : Bool) (w : World) (h : ratio_natDigits.f k a0 a1 = some (r1, r2, r3)) :
  Calls Try.prog 100 #[.string a0, .int .i64 a1] w fun e w' => ∃ v0_ : Value, e = .returned (.tuple #[v0_, .int .i64 r2, .bool r3]) ∧ Kd.R (Kd.int .u32) 47 w' w.heap.size (fun _ => True) v0_ r1 ∧ Below w.heap.size w w' := by
 have HB := Yt.mk (Below.refl w.heap.size w)
 unfold ratio_natDigits.f at h
 have H := h
 clear h
 have H' := Yt.mk H
 clear H
 go_enter Try.func100, Try.ntmps100
 go_wp2
 go_loopg [7, 8] k (fun kq v7 v8 w' => ∃ (x7_1 : List Int) (x8_1 : Int), v8 = .int .i64 x8_1 ∧ Yt (ratio_natDigits.l0 kq a0 a1 x7_1 x8_1 = some (r1, r2, r3)) ∧ Yt (kq ≤ k) ∧ Yt (Kd.R (Kd.int .u32) 47 w' w.heap.size (fun _ => True) v7 x7_1) ∧ Yt (Below w.heap.size w w'))
 case atStart => exact ⟨(([] : List Int)), (a1), Qa5, H', ⟨Nat.le_refl _⟩, ⟨by first | exact Kd.R_nil _ _ _ _ _ | exact Kd.N_nil _ _ _ _ _ | exact Kd.V_nil _ _ _ _ _ | exact Kd.Q_nil _ _ _ _ _ | exact Kd.S_nil _ _ _ _ _⟩, ⟨Qa0⟩⟩
 case round =>
  clear H'
  try clear c1; try clear p2
  obtain ⟨x7_1, x8_1, rfl, HA, HK1, HO_7, HB⟩ := hrel
  cases gk with
  | zero => exact absurd HA.out (by simp [ratio_natDigits.l0])
  | succ k1 =>
   have H := HA.out
   clear HA
   simp only [ratio_natDigits.l0] at H
   have HC3 := Yt.mk H
   clear H
   go_upto_region 3 with (fail)
   go_cut [21] (fun v21 wc => ∃ (kq : Nat) (x21_2 : Bool), v21 = .bool x21_2 ∧ Yt (ratio_natDigits.j1 kq a0 a1 x7_1 x8_1 x21_2 = some (r1, r2, r3)) ∧ Yt (kq ≤ k1) ∧ Yt (Kd.R (Kd.int .u32) 47 wc w.heap.size (fun _ => True) u7 x7_1) ∧ Yt (Below w.heap.size w wc))
   case first =>
    have H := HC3.out
    clear HC3
    by_cases c4 : x8_1 < (a0.size : Int)
    rotate_left
    ·rw [if_neg c4] at H
     have c4b0 : decide (x8_1 < (a0.size : Int)) = false := decide_eq_false c4
     clear c4
     (first | rw [c4b0] | rw [c4b1] | (simp only [Yi, Yj]; rw [c4b0]) | skip)
     have H' := Yt.mk H
     clear H
     go_wp2
     go_meet
     case rel => exact ⟨_, (false), Qa5, H', ⟨by have := HK1.out; first | omega | exact Nat.le_refl _⟩, ⟨Qr1 HO_7.out⟩, ⟨Qa0⟩⟩
    rw [if_pos c4] at H
    have c4b0 : decide (x8_1 < (a0.size : Int)) = true := decide_eq_true c4
    clear c4
    (first | rw [c4b0] | rw [c4b1] | (simp only [Yi, Yj]; rw [c4b0]) | skip)
    by_cases c5 : 0 ≤ x8_1
    rotate_left
    ·rw [if_neg c5] at H
     exact absurd H (by simp)
    rw [if_pos c5] at H
    have c5b0 : decide (0 ≤ x8_1) = true := decide_eq_true c5
    clear c5
    replace H := Option.bind_eq_some_iff.mp H
    obtain ⟨t1054, A70, H⟩ := H
    try dsimp only at H
    have A7 := Yt.mk A70
    clear A70
    have H' := Yt.mk H
    clear H
    have p6 : 0 ≤ (x8_1 : Int) := Qd
    have q6 : x8_1 < (a0.size : Int) := Qd
    have hx6 := bt_at a0 x8_1
    replace p6 := eq_true p6
    replace q6 := eq_true q6
    go_wp2_with (first | (go_at_call 99; (with_reducible refine (ratio_class.calls (bt a0 x8_1) t1054 _ A7.out).mono ?_); rintro e w8 ⟨rfl, hb⟩; replace HO_7 := Yt.mk (Kd.Yd (Qr1 HO_7.out) hb); replace HB := Yt.mk (Zm (Qa0) hb); (try clear hb)))
    go_meet
    case rel => exact ⟨_, ((t1054 == 2)), Qa5, H', ⟨by have := HK1.out; first | omega | exact Nat.le_refl _⟩, ⟨Qr1 HO_7.out⟩, ⟨Qa0⟩⟩
   case rest =>
    clear HC3
    try clear c1; try clear p2; try clear c4; try clear c4b0; try clear c4b1; try clear c5; try clear c5b0; try clear p6; try clear q6; try clear hx6; try clear p2; try clear p6; try clear q6
    obtain ⟨kq, x21_2, rfl, HA, HJ2, HO_7, HB⟩ := hcut
    cases kq with
    | zero => exact absurd HA.out (by simp [ratio_natDigits.j1])
    | succ kj2 =>
     have H := HA.out
     clear HA
     simp only [ratio_natDigits.j1] at H
     by_cases c9 : x21_2 = true
     rotate_left
     ·replace c9 := Bool.eq_false_iff.mpr c9
      subst c9
      rw [if_neg (show ¬ (false = true) by decide)] at H
      simp only [Option.some.injEq, Prod.mk.injEq] at H
      obtain ⟨rfl, rfl, rfl⟩ := H
      go_wp2
      go_ret3
      exact ⟨_, Qa4, Qr1 HO_7.out, Qa0⟩
     subst c9
     rw [if_pos rfl] at H
     by_cases c10 : 0 ≤ x8_1
     rotate_left
     ·rw [if_neg c10] at H
      exact absurd H (by simp)
     rw [if_pos c10] at H
     have c10b0 : decide (0 ≤ x8_1) = true := decide_eq_true c10
     clear c10
     by_cases c11 : x8_1 < (a0.size : Int)
     rotate_left
     ·rw [if_neg c11] at H
      exact absurd H (by simp)
     rw [if_pos c11] at H
     have c11b0 : decide (x8_1 < (a0.size : Int)) = true := decide_eq_true c11
     clear c11
     by_cases c13 : (((bt a0 x8_1) - 48) % 256) > 0
     ·rw [if_pos c13] at H
      have c13b0 : decide (0 < (((bt a0 x8_1) - 48) % 256)) = true := decide_eq_true c13
      clear c13
      replace H := Option.bind_eq_some_iff.mp H
      obtain ⟨t1055, A140, H⟩ := H
      try dsimp only at H
      have A14 := Yt.mk A140
      clear A140
      have H' := Yt.mk H
      clear H
      have p12 : 0 ≤ (x8_1 : Int) := Qd
      have q12 : x8_1 < (a0.size : Int) := Qd
      have hx12 := bt_at a0 x8_1
      replace p12 := eq_true p12
      replace q12 := eq_true q12
      obtain ⟨Ao15, co15, eo15⟩ := Kd.Zx HO_7.out
      subst eo15
      go_wp2_with (first | ((with_reducible refine Zr (f := 87) rfl ?_); refine Yg (some 38) rfl rfl Try.func87 Qa8 rfl #[.slice Ao15 x7_1.length co15, .int .u32 (((bt a0 x8_1) - 48) % 256)] rfl Qa2 ?_; (with_reducible refine (nats_Push.calls kj2 (fun k_ => some k_ = (.slice Ao15 x7_1.length co15 : Value).ownBlock) (.slice Ao15 x7_1.length co15) x7_1 (((bt a0 x8_1) - 48) % 256) t1055 w _ ?side1 ?side2 A14.out).mono ?_); (case side1 => repeat (first | (with_reducible first | exact HB.out | apply Zb | apply Za | apply Zc) | exact HB.out)); (case side2 => exact Kd.R_tight rfl HO_7.out); rintro e w16 ⟨v1056, rfl, ho0, hb, hkp⟩; refine ⟨_, rfl, ?_⟩; have HO1057 := Yt.mk (Kd.Zv (ok' := fun k_ => True) ho0 (fun k_ hk_ => trivial)); replace HB := Yt.mk (hb); clear HO_7; (try clear hb); (try clear hkp); (try clear ho0)))
      go_roundg kj2
      case measure => have := HK1.out; have := HJ2.out; omega
      case rel => exact ⟨(t1055), (wrap64 (x8_1 + 1)), Qa5, H', ⟨by have := HK1.out; have := HJ2.out; omega⟩, ⟨Qr1 HO1057.out⟩, ⟨Qa0⟩⟩
     rw [if_neg c13] at H
     have c13b0 : decide (0 < (((bt a0 x8_1) - 48) % 256)) = false := decide_eq_false c13
     clear c13
     by_cases c17 : (x7_1.length : Int) > 0
     rotate_left
     ·rw [if_neg c17] at H
      have c17b0 : decide (0 < (x7_1.length : Int)) = false := decide_eq_false c17
      have c17b1 : decide (0 < x7_1.length) = false := decide_eq_false (by omega)
      clear c17
      have H' := Yt.mk H
      clear H
      have p12 : 0 ≤ (x8_1 : Int) := Qd
      have q12 : x8_1 < (a0.size : Int) := Qd
      have hx12 := bt_at a0 x8_1
      replace p12 := eq_true p12
      replace q12 := eq_true q12
      obtain ⟨Ao21, co21, eo21⟩ := Kd.Zx HO_7.out
      subst eo21
      go_wp2
      go_roundg kj2
      case measure => have := HK1.out; have := HJ2.out; omega
      case rel => exact ⟨(x7_1), (wrap64 (x8_1 + 1)), Qa5, H', ⟨by have := HK1.out; have := HJ2.out; omega⟩, ⟨Qr1 HO_7.out⟩, ⟨Qa0⟩⟩
     rw [if_pos c17] at H
     have c17b0 : decide (0 < (x7_1.length : Int)) = true := decide_eq_true c17
     have c17b1 : decide (0 < x7_1.length) = true := decide_eq_true (by omega)
     clear c17
     replace H := Option.bind_eq_some_iff.mp H
     obtain ⟨t1058, A180, H⟩ := H
     try dsimp only at H
     have A18 := Yt.mk A180
     clear A180
     have H' := Yt.mk H
     clear H
     have p12 : 0 ≤ (x8_1 : Int) := Qd
     have q12 : x8_1 < (a0.size : Int) := Qd
     have hx12 := bt_at a0 x8_1
     replace p12 := eq_true p12
     replace q12 := eq_true q12
     obtain ⟨Ao19, co19, eo19⟩ := Kd.Zx HO_7.out
     subst eo19
     go_wp2_with (first | ((with_reducible refine Zr (f := 87) rfl ?_); refine Yg (some 38) rfl rfl Try.func87 Qa8 rfl #[.slice Ao19 x7_1.length co19, .int .u32 (((bt a0 x8_1) - 48) % 256)] rfl Qa2 ?_; (with_reducible refine (nats_Push.calls kj2 (fun k_ => some k_ = (.slice Ao19 x7_1.length co19 : Value).ownBlock) (.slice Ao19 x7_1.length co19) x7_1 (((bt a0 x8_1) - 48) % 256) t1058 w _ ?side1 ?side2 A18.out).mono ?_); (case side1 => repeat (first | (with_reducible first | exact HB.out | apply Zb | apply Za | apply Zc) | exact HB.out)); (case side2 => exact Kd.R_tight rfl HO_7.out); rintro e w20 ⟨v1059, rfl, ho0, hb, hkp⟩; refine ⟨_, rfl, ?_⟩; have HO1060 := Yt.mk (Kd.Zv (ok' := fun k_ => True) ho0 (fun k_ hk_ => trivial)); replace HB := Yt.mk (hb); clear HO_7; (try clear hb); (try clear hkp); (try clear ho0)))
     go_roundg kj2
     case measure => have := HK1.out; have := HJ2.out; omega
     case rel => exact ⟨(t1058), (wrap64 (x8_1 + 1)), Qa5, H', ⟨by have := HK1.out; have := HJ2.out; omega⟩, ⟨Qr1 HO1060.out⟩, ⟨Qa0⟩⟩
end Go.Proofs.Ytgffficaoioljaa.P
end
