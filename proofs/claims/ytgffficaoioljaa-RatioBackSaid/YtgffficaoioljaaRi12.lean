import Derived.Test.YtgffficaoioljaaRi11
section
namespace Go.Proofs.Ytgffficaoioljaa.P
open Go.RowKit Go.Proofs.YtgffficaoioljaaW.PrintWords Go.Proofs.YtgffficaoioljaaW.PrintLast Go.Proofs.YtgffficaoioljaaW.PrintMore
attribute [local go_sem] max2_int min2_int max_two min_two max_three min_three max_four min_four
set_option linter.unusedVariables false
set_option linter.unusedSimpArgs false
mutual
def nats_Mul.l0 : Nat → List Int → List Int → List Int → Int → Int → Option (List Int)
 | 0, _, _, _, _, _ => none
 | k + 1, x1, x5, x22, x23, x24 => if x24 < x23 then (if 0 ≤ x24 then (if x24 < (x22.length : Int) then (nats_Mul.l1 k x1 x5 x24 (rd x22 x24) 0 x22 x23 x24 x1 (x1.length : Int) 0) else (none)) else (none)) else ((nats_cuto.f k x5).bind fun t128 => (some t128))
def nats_Mul.l1 : Nat → List Int → List Int → Int → Int → Int → List Int → Int → Int → List Int → Int → Int → Option (List Int)
 | 0, _, _, _, _, _, _, _, _, _, _, _ => none
 | k + 1, x1, x5, x6, x7, x8, x22, x23, x24, x29, x30, x31 => if x31 < x30 then (if 0 ≤ x31 then (if x31 < (x29.length : Int) then (if 0 ≤ (wrap64 (x6 + x31)) then (if (wrap64 (x6 + x31)) < (x5.length : Int) then (nats_Mul.l1 k x1 (x5.set ((wrap64 (x6 + x31)) : Int).toNat ((IntKind.u64.wrap ((IntKind.u64.wrap ((IntKind.u64.wrap ((IntKind.u64.wrap (x7)) * (IntKind.u64.wrap (rd x29 x31)))) + (IntKind.u64.wrap (rd x5 (wrap64 (x6 + x31)))))) + x8)) % 4294967296)) x6 x7 ((IntKind.u64.wrap ((IntKind.u64.wrap ((IntKind.u64.wrap ((IntKind.u64.wrap (x7)) * (IntKind.u64.wrap (rd x29 x31)))) + (IntKind.u64.wrap (rd x5 (wrap64 (x6 + x31)))))) + x8)) / 4294967296) x22 x23 x24 x29 x30 (wrap64 (x31 + 1))) else (none)) else (none)) else (none)) else (none)) else (if 0 ≤ (wrap64 (x6 + (x1.length : Int))) then (if (wrap64 (x6 + (x1.length : Int))) < (x5.length : Int) then (nats_Mul.l0 k x1 (x5.set ((wrap64 (x6 + (x1.length : Int))) : Int).toNat ((x8) % 4294967296)) x22 x23 (wrap64 (x24 + 1))) else (none)) else (none))
end
def nats_Mul.f (k : Nat) (l0 : List Int) (l1 : List Int) : Option (List Int) := (nats_cut.f k l0).bind fun t119 => ((nats_cut.f k l1).bind fun t122 => (if 0 ≤ (wrap64 ((t119.length : Int) + (t122.length : Int))) then (if (wrap64 ((t119.length : Int) + (t122.length : Int)) : Int).toNat ≤ 70368744177664 then (nats_Mul.l0 k t122 (List.replicate (wrap64 ((t119.length : Int) + (t122.length : Int)) : Int).toNat 0) t119 (t119.length : Int) 0) else (none)) else (none)))
theorem nats_Mul.mono_l : ∀ k, (∀ y0 y1 y2 y3 y4, LeO (nats_Mul.l0 k y0 y1 y2 y3 y4) (nats_Mul.l0 (k + 1) y0 y1 y2 y3 y4)) ∧ (∀ y0 y1 y2 y3 y4 y5 y6 y7 y8 y9 y10, LeO (nats_Mul.l1 k y0 y1 y2 y3 y4 y5 y6 y7 y8 y9 y10) (nats_Mul.l1 (k + 1) y0 y1 y2 y3 y4 y5 y6 y7 y8 y9 y10))
 | 0 => ⟨fun _ _ _ _ _ r h => by simp [nats_Mul.l0] at h, fun _ _ _ _ _ _ _ _ _ _ _ r h => by simp [nats_Mul.l1] at h⟩
 | k + 1 => by
  obtain ⟨ih0, ih1⟩ := nats_Mul.mono_l k
  refine ⟨?_, ?_⟩
  ·intro y0 y1 y2 y3 y4
   unfold nats_Mul.l0
   repeat' first
   | (with_reducible exact ih0 _ _ _ _ _)
   | (with_reducible exact ih1 _ _ _ _ _ _ _ _ _ _ _)
   | (with_reducible exact nats_cut.mono _ _)
   | (with_reducible exact nats_cuto.mono _ _)
   | (with_reducible exact LeO.refl _)
   | (with_reducible exact LeO.none _)
   | (with_reducible refine LeO.ite ?_ ?_)
   | (with_reducible refine LeO.bind ?_ (fun _ => ?_))
   | exact ih0 _ _ _ _ _
   | exact ih1 _ _ _ _ _ _ _ _ _ _ _
   | exact nats_cut.mono _ _
   | exact nats_cuto.mono _ _
   | exact LeO.none _
   | refine LeO.ite ?_ ?_
   | refine LeO.bind ?_ (fun _ => ?_)
  ·intro y0 y1 y2 y3 y4 y5 y6 y7 y8 y9 y10
   unfold nats_Mul.l1
   repeat' first
   | (with_reducible exact ih0 _ _ _ _ _)
   | (with_reducible exact ih1 _ _ _ _ _ _ _ _ _ _ _)
   | (with_reducible exact nats_cut.mono _ _)
   | (with_reducible exact nats_cuto.mono _ _)
   | (with_reducible exact LeO.refl _)
   | (with_reducible exact LeO.none _)
   | (with_reducible refine LeO.ite ?_ ?_)
   | (with_reducible refine LeO.bind ?_ (fun _ => ?_))
   | exact ih0 _ _ _ _ _
   | exact ih1 _ _ _ _ _ _ _ _ _ _ _
   | exact nats_cut.mono _ _
   | exact nats_cuto.mono _ _
   | exact LeO.none _
   | refine LeO.ite ?_ ?_
   | refine LeO.bind ?_ (fun _ => ?_)
theorem nats_Mul.mono : ∀ a0 a1 k, LeO (nats_Mul.f k a0 a1) (nats_Mul.f (k + 1) a0 a1) := by
 intro a0 a1 k
 obtain ⟨ih0, ih1⟩ := nats_Mul.mono_l k
 unfold nats_Mul.f
 repeat' first
   | (with_reducible exact ih0 _ _ _ _ _)
   | (with_reducible exact ih1 _ _ _ _ _ _ _ _ _ _ _)
   | (with_reducible exact nats_cut.mono _ _)
   | (with_reducible exact nats_cuto.mono _ _)
   | (with_reducible exact LeO.refl _)
   | (with_reducible exact LeO.none _)
   | (with_reducible refine LeO.ite ?_ ?_)
   | (with_reducible refine LeO.bind ?_ (fun _ => ?_))
   | exact ih0 _ _ _ _ _
   | exact ih1 _ _ _ _ _ _ _ _ _ _ _
   | exact nats_cut.mono _ _
   | exact nats_cuto.mono _ _
   | exact LeO.none _
   | refine LeO.ite ?_ ?_
   | refine LeO.bind ?_ (fun _ => ?_)
set_option maxHeartbeats 8000000 in
set_option maxRecDepth 100000 in
theorem nats_Mul.calls (k : Nat) (A0 : Option Addr) (c0 : Nat) (l0 : List Int) (A1 : Option Addr) (c1 : Nat) (l1 : List Int) (r : List Int) (w : World) (hr0 : Kd.C (Kd.int .u32) w A0 l0.length l0) (hc0 : l0.length ≤ c0) (hr1 : Kd.C (Kd.int .u32) w A1 l1.length l1) (hc1 : l1.length ≤ c1) (h : nats_Mul.f k l0 l1 = some r) :
  Calls Try.prog 81 #[.slice A0 l0.length c0, .slice A1 l1.length c1] w fun e w' => ∃ v0_ : Value, e = .returned (v0_) ∧ Kd.R (Kd.int .u32) 47 w' w.heap.size (fun _ => True) v0_ r ∧ Below w.heap.size w w' := by
 have HR0 := Yt.mk hr0
 have HC0 := Yt.mk hc0
 clear hr0 hc0
 have HR1 := Yt.mk hr1
 have HC1 := Yt.mk hc1
 clear hr1 hc1
 have HB := Yt.mk (Below.refl w.heap.size w)
 have H : ((nats_cut.f k l0).bind fun t119 => ((nats_cut.f k l1).bind fun t122 => (if 0 ≤ (wrap64 ((t119.length : Int) + (t122.length : Int))) then (if (wrap64 ((t119.length : Int) + (t122.length : Int)) : Int).toNat ≤ 70368744177664 then (nats_Mul.l0 k t122 (List.replicate (wrap64 ((t119.length : Int) + (t122.length : Int)) : Int).toNat 0) t119 (t119.length : Int) 0) else (none)) else (none)))) = some r := h
 clear h
 replace H := Option.bind_eq_some_iff.mp H
 obtain ⟨t119, A30, H⟩ := H
 try dsimp only at H
 have A3 := Yt.mk A30
 clear A30
 replace H := Option.bind_eq_some_iff.mp H
 obtain ⟨t122, A40, H⟩ := H
 try dsimp only at H
 have A4 := Yt.mk A40
 clear A40
 obtain ⟨ji5, hji5⟩ : ∃ j_ : Int, (wrap64 ((t119.length : Int) + (t122.length : Int))) = j_ := ⟨_, rfl⟩
 replace H : (if 0 ≤ (ji5) then (if (ji5 : Int).toNat ≤ 70368744177664 then (nats_Mul.l0 k t122 (List.replicate (ji5 : Int).toNat 0) t119 (t119.length : Int) 0) else (none)) else (none)) = some r := by first | (rw [hji5] at H; exact H) | (simp only [hji5] at H ⊢; exact H)
 (try rw [hji5] at A3)
 (try rw [hji5] at A4)
 have hji5w : (IntKind.i64.wrap ((t119.length : Int) + (t122.length : Int))) = ji5 := (Yi _).trans hji5
 by_cases c6 : 0 ≤ (ji5)
 ·rw [if_pos c6] at H
  have c6b0 := eq_true c6
  have c6b1 : decide (0 ≤ (ji5)) = true := decide_eq_true c6
  clear c6
  by_cases c7 : (ji5 : Int).toNat ≤ 70368744177664
  ·rw [if_pos c7] at H
   have c7b0 := eq_true c7
   have c7b1 : decide ((ji5 : Int).toNat ≤ 70368744177664) = true := decide_eq_true c7
   clear c7
   obtain ⟨y125, hy125⟩ : ∃ y_ : List Int, y_ = (List.replicate (ji5 : Int).toNat 0) := ⟨_, rfl⟩
   replace H : (nats_Mul.l0 k t122 y125 t119 (t119.length : Int) 0) = some r := by first | (rw [hy125]; with_reducible exact H) | (have H2_ := (Option.bind_some _ _).symm.trans H; rw [hy125]; with_reducible exact H2_) | (have H2_ := (Option.bind_some _ _).symm.trans H; with_reducible exact H2_) | with_reducible exact H | (rw [hy125]; exact H) | exact H
   have Ny125 := Yt.mk hy125
   clear hy125
   have H' := Yt.mk H
   clear H
   go_enter Try.func81, Try.ntmps81
   go_wp2_with (first | ((with_reducible refine Zr (f := 108) rfl ?_); refine Yg (some 13) rfl rfl Try.func108 (by kernel_rfl) rfl #[.slice A0 l0.length c0] rfl (by (try simp only [List.map_toArray, List.map_cons, List.map_nil]); first | done | rfl | (simp only [List.length_drop, List.length_take]; rfl)) ?_; (with_reducible refine (nats_cut.calls k (fun k_ => k_ < w.heap.size) _ _ l0 t119 _ ?side1 A3.out).mono ?_); (case side1 => exact Kd.V_mk HC0.out (Kd.F_below (Kd.C_F (Kd.heap_int .u32) HR0.out) (by repeat (first | (with_reducible first | exact HB.out | apply Zb | apply Za | apply Zc) | exact HB.out)))); rintro e w8 ⟨v120, rfl, ho0, hb⟩; refine ⟨_, rfl, ?_⟩; have n0_ := Yt.mk (Kd.V_lower (Kd.Yp (ok' := fun k_ => True) ho0 (fun k_ hk_ => trivial)) (Zk (by repeat (first | (with_reducible first | exact HB.out | apply Zb | apply Za | apply Zc) | exact HB.out)))); have n1_ := Yt.mk (Zm (by repeat (first | (with_reducible first | exact HB.out | apply Zb | apply Za | apply Zc) | exact HB.out)) hb); clear HB; have HO121 := n0_; have HB := n1_; clear n0_ n1_; (try clear hb); (try clear hb2); (try clear hk); (try clear hi); (try clear ho0)) | ((with_reducible refine Zr (f := 108) rfl ?_); refine Yg (some 15) rfl rfl Try.func108 (by kernel_rfl) rfl #[.slice A1 l1.length c1] rfl (by (try simp only [List.map_toArray, List.map_cons, List.map_nil]); first | done | rfl | (simp only [List.length_drop, List.length_take]; rfl)) ?_; (with_reducible refine (nats_cut.calls k (fun k_ => k_ < w.heap.size) _ _ l1 t122 _ ?side1 A4.out).mono ?_); (case side1 => exact Kd.V_mk HC1.out (Kd.F_below (Kd.C_F (Kd.heap_int .u32) HR1.out) (by repeat (first | (with_reducible first | exact HB.out | apply Zb | apply Za | apply Zc) | exact HB.out)))); rintro e w9 ⟨v123, rfl, ho0, hb⟩; refine ⟨_, rfl, ?_⟩; have n0_ := Yt.mk (Kd.Yr (by (with_reducible repeat (first | apply Kd.Zz | apply Kd.Zy | apply Kd.Ye)); exact HO121.out) hb); have n1_ := Yt.mk (Kd.V_lower (Kd.Yp (ok' := fun k_ => True) ho0 (fun k_ hk_ => trivial)) (Zk (by repeat (first | (with_reducible first | exact HB.out | apply Zb | apply Za | apply Zc) | exact HB.out)))); have n2_ := Yt.mk (Zm (by repeat (first | (with_reducible first | exact HB.out | apply Zb | apply Za | apply Zc) | exact HB.out)) hb); clear HO121; clear HB; have HO121 := n0_; have HO124 := n1_; have HB := n2_; clear n0_ n1_ n2_; (try clear hb); (try clear hb2); (try clear hk); (try clear hi); (try clear ho0); obtain ⟨Ao10, co10, eo10⟩ := Kd.V_slice HO121.out; subst eo10; obtain ⟨Ao11, co11, eo11⟩ := Kd.V_slice HO124.out; subst eo11) | ((with_reducible refine Yk (N := 21) rfl ?_); refine Kd.R_make (Kd.int .u32) _ 47 rfl (N := 21) rfl 22 _ _ rfl ji5 rfl rfl Try.underlying22 (.int .u32 0) 4 info47 rfl (by decide) (by omega) 0 (ok := fun _ => True) (okp := fun _ => True) rfl (fun _ hk => hk) trivial (of_decide_eq_true (by first | (with_reducible assumption) | assumption)) (Nat.le_trans (Nat.mul_le_mul_right _ (of_decide_eq_true (by first | (with_reducible assumption) | assumption) : ji5.toNat ≤ 70368744177664)) (by omega)) (Below.refl _ _) (Nat.le_refl _) ?_; intro v126 w12 ho13 hb hg_ hnew_; clear hg_ hnew_; (first | rw [← Ny125.out] at ho13 | (simp only [Int.reduceToNat] at ho13; rw [← Ny125.out] at ho13)); have n0_ := Yt.mk (Kd.V_elder' (by (with_reducible repeat (first | apply Kd.Zz | apply Kd.Zy | apply Kd.Ye)); exact HO121.out) (Kd.Zw ho13) hb); have n1_ := Yt.mk (Kd.V_elder' (by (with_reducible repeat (first | apply Kd.Zz | apply Kd.Zy | apply Kd.Ye)); exact HO124.out) (Kd.Zw ho13) hb); have n2_ := Yt.mk (Kd.Yb ho13 (Zk (by repeat (first | (with_reducible first | exact HB.out | apply Zb | apply Za | apply Zc) | exact HB.out)))); have n3_ := Yt.mk (Zm (by repeat (first | (with_reducible first | exact HB.out | apply Zb | apply Za | apply Zc) | exact HB.out)) hb); clear HO121; clear HO124; clear HB; have HO121 := n0_; have HO124 := n1_; have HO127 := n2_; have HB := n3_; clear n0_ n1_ n2_ n3_; clear hb ho13))
   go_loopg [24] k (fun kq v24 w' => ∃ (x5_1 : List Int) (x24_1 : Int), v24 = .int .i64 x24_1 ∧ Yt (nats_Mul.l0 kq t122 x5_1 t119 (t119.length : Int) x24_1 = some r) ∧ Yt (kq ≤ k) ∧ Yt (Kd.V (Kd.int .u32) 47 w' w.heap.size (fun k_ => some k_ ≠ (v126 : Value).ownBlock) (.slice Ao11 t122.length co11) t122) ∧ Yt (Kd.R (Kd.int .u32) 47 w' w.heap.size (fun _ => True) v126 x5_1) ∧ Yt (Kd.V (Kd.int .u32) 47 w' w.heap.size (fun k_ => some k_ ≠ (v126 : Value).ownBlock) (.slice Ao10 t119.length co10) t119) ∧ Yt (Below w.heap.size w w'))
   case atStart => exact ⟨(y125), (0), (by first | rfl | (simp; done) | (simp [*]; done)), H', ⟨Nat.le_refl _⟩, ⟨by (with_reducible repeat (first | apply Kd.Zz | apply Kd.Zy | apply Kd.Ye)); exact Kd.Yp HO124.out (fun _ hk => hk.2)⟩, ⟨by (with_reducible repeat (first | apply Kd.Zf | apply Kd.Ze | apply Kd.Zj)); exact HO127.out⟩, ⟨by (with_reducible repeat (first | apply Kd.Zz | apply Kd.Zy | apply Kd.Ye)); exact Kd.Yp HO121.out (fun _ hk => hk.2)⟩, ⟨by repeat (first | (with_reducible first | exact HB.out | apply Zb | apply Za | apply Zc) | exact HB.out)⟩⟩
   case round =>
    clear H'
    try clear c1
    try clear p2
    try clear c6
    try clear c6b0
    try clear c6b1
    try clear p6
    try clear c7
    try clear c7b0
    try clear c7b1
    try clear c8
    try clear c10
    obtain ⟨x5_1, x24_1, rfl, HA, HK1, HO_1, HO_5, HO_22, HB⟩ := hrel
    cases gk with
    | zero => exact absurd HA.out (by simp [nats_Mul.l0])
    | succ k1 =>
     have H := HA.out
     clear HA
     simp only [nats_Mul.l0] at H
     by_cases c14 : x24_1 < (t119.length : Int)
     ·rw [if_pos c14] at H
      have c14b0 : decide (x24_1 < (t119.length : Int)) = true := decide_eq_true c14
      clear c14
      by_cases c15 : 0 ≤ x24_1
      ·rw [if_pos c15] at H
       have c15b0 : decide (0 ≤ x24_1) = true := decide_eq_true c15
       clear c15
       by_cases c16 : x24_1 < (t119.length : Int)
       ·rw [if_pos c16] at H
        have c16b0 : decide (x24_1 < (t119.length : Int)) = true := decide_eq_true c16
        clear c16
        have H' := Yt.mk H
        clear H
        have p131 : 0 ≤ (x24_1 : Int) := of_decide_eq_true (by first | (with_reducible assumption) | assumption)
        have q131 : x24_1 < (t119.length : Int) := of_decide_eq_true (by first | (with_reducible assumption) | assumption)
        obtain ⟨ad131, e131, hx131_0⟩ := Kd.at_int (Kd.Yn HO_22.out).2.2 x24_1 p131 q131
        cases e131
        replace p131 := eq_true p131
        replace q131 := eq_true q131
        go_wp2
        go_loopg [8, 31] k1 (fun kq v8 v31 w' => ∃ (x5_2 : List Int) (x8_2 : Int) (x31_2 : Int), v8 = .int .u64 x8_2 ∧ v31 = .int .i64 x31_2 ∧ Yt (nats_Mul.l1 kq t122 x5_2 x24_1 (rd t119 x24_1) x8_2 t119 (t119.length : Int) x24_1 t122 (t122.length : Int) x31_2 = some r) ∧ Yt (kq ≤ k1) ∧ Yt (Kd.V (Kd.int .u32) 47 w' w.heap.size (fun k_ => some k_ ≠ (v126 : Value).ownBlock) (.slice Ao11 t122.length co11) t122) ∧ Yt (Kd.R (Kd.int .u32) 47 w' w.heap.size (fun _ => True) v126 x5_2) ∧ Yt (Kd.V (Kd.int .u32) 47 w' w.heap.size (fun k_ => some k_ ≠ (v126 : Value).ownBlock) (.slice (some ad131) t119.length co10) t119) ∧ Yt (Kd.V (Kd.int .u32) 47 w' w.heap.size (fun k_ => some k_ ≠ (v126 : Value).ownBlock) (.slice Ao11 t122.length co11) t122) ∧ Yt (Below w.heap.size w w'))
        case atStart => exact ⟨(x5_1), (0), (0), (by first | rfl | (simp; done) | (simp [*]; done)), (by first | rfl | (simp; done) | (simp [*]; done)), H', ⟨Nat.le_refl _⟩, ⟨by (with_reducible repeat (first | apply Kd.Zz | apply Kd.Zy | apply Kd.Ye)); exact HO_1.out⟩, ⟨by (with_reducible repeat (first | apply Kd.Zf | apply Kd.Ze | apply Kd.Zj)); exact HO_5.out⟩, ⟨by (with_reducible repeat (first | apply Kd.Zz | apply Kd.Zy | apply Kd.Ye)); exact HO_22.out⟩, ⟨by (with_reducible repeat (first | apply Kd.Zz | apply Kd.Zy | apply Kd.Ye)); exact HO_1.out⟩, ⟨by repeat (first | (with_reducible first | exact HB.out | apply Zb | apply Za | apply Zc) | exact HB.out)⟩⟩
        case round =>
         clear H'
         try clear c1
         try clear p1
         try clear q1
         try clear hx1
         try clear p2
         try clear c6
         try clear c6b0
         try clear c6b1
         try clear p6
         try clear c7
         try clear c7b0
         try clear c7b1
         try clear c8
         try clear c10
         try clear p13
         try clear q13
         try clear hx13
         try clear c14
         try clear c14b0
         try clear c15
         try clear c15b0
         try clear c16
         try clear c16b0
         try clear hx131_0
         try clear p131
         try clear p2
         try clear p6
         try clear q131
         obtain ⟨x5_2, x8_2, x31_2, rfl, rfl, HA, HK2, HO_1, HO_5, HO_22, HO_29, HB⟩ := hrel
         cases gk with
         | zero => exact absurd HA.out (by simp [nats_Mul.l1])
         | succ k2 =>
          have H := HA.out
          clear HA
          simp only [nats_Mul.l1] at H
          by_cases c17 : x31_2 < (t122.length : Int)
          ·rw [if_pos c17] at H
           have c17b0 : decide (x31_2 < (t122.length : Int)) = true := decide_eq_true c17
           clear c17
           by_cases c18 : 0 ≤ x31_2
           ·rw [if_pos c18] at H
            have c18b0 : decide (0 ≤ x31_2) = true := decide_eq_true c18
            clear c18
            by_cases c19 : x31_2 < (t122.length : Int)
            ·rw [if_pos c19] at H
             have c19b0 : decide (x31_2 < (t122.length : Int)) = true := decide_eq_true c19
             clear c19
             obtain ⟨ji20, hji20⟩ : ∃ j_ : Int, (wrap64 (x24_1 + x31_2)) = j_ := ⟨_, rfl⟩
             replace H : (if 0 ≤ (ji20) then (if (ji20) < (x5_2.length : Int) then (nats_Mul.l1 k2 t122 (x5_2.set ((ji20) : Int).toNat ((IntKind.u64.wrap ((IntKind.u64.wrap ((IntKind.u64.wrap ((IntKind.u64.wrap ((rd t119 x24_1))) * (IntKind.u64.wrap (rd t122 x31_2)))) + (IntKind.u64.wrap (rd x5_2 (ji20))))) + x8_2)) % 4294967296)) x24_1 (rd t119 x24_1) ((IntKind.u64.wrap ((IntKind.u64.wrap ((IntKind.u64.wrap ((IntKind.u64.wrap ((rd t119 x24_1))) * (IntKind.u64.wrap (rd t122 x31_2)))) + (IntKind.u64.wrap (rd x5_2 (ji20))))) + x8_2)) / 4294967296) t119 (t119.length : Int) x24_1 t122 (t122.length : Int) (wrap64 (x31_2 + 1))) else (none)) else (none)) = some r := by first | (rw [hji20] at H; exact H) | (simp only [hji20] at H ⊢; exact H)
             have hji20w : (IntKind.i64.wrap (x24_1 + x31_2)) = ji20 := (Yi _).trans hji20
             by_cases c21 : 0 ≤ (ji20)
             ·rw [if_pos c21] at H
              have c21b0 : decide (0 ≤ (ji20)) = true := decide_eq_true c21
              clear c21
              by_cases c22 : (ji20) < (x5_2.length : Int)
              ·rw [if_pos c22] at H
               have c22b0 : decide ((ji20) < (x5_2.length : Int)) = true := decide_eq_true c22
               clear c22
               obtain ⟨y134, hy134⟩ : ∃ y_ : List Int, y_ = (x5_2.set ((ji20) : Int).toNat ((IntKind.u64.wrap ((IntKind.u64.wrap ((IntKind.u64.wrap ((IntKind.u64.wrap ((rd t119 x24_1))) * (IntKind.u64.wrap (rd t122 x31_2)))) + (IntKind.u64.wrap (rd x5_2 (ji20))))) + x8_2)) % 4294967296)) := ⟨_, rfl⟩
               replace H : (nats_Mul.l1 k2 t122 y134 x24_1 (rd t119 x24_1) ((IntKind.u64.wrap ((IntKind.u64.wrap ((IntKind.u64.wrap ((IntKind.u64.wrap ((rd t119 x24_1))) * (IntKind.u64.wrap (rd t122 x31_2)))) + (IntKind.u64.wrap (rd x5_2 (ji20))))) + x8_2)) / 4294967296) t119 (t119.length : Int) x24_1 t122 (t122.length : Int) (wrap64 (x31_2 + 1))) = some r := by first | (rw [hy134]; with_reducible exact H) | (have H2_ := (Option.bind_some _ _).symm.trans H; rw [hy134]; with_reducible exact H2_) | (have H2_ := (Option.bind_some _ _).symm.trans H; with_reducible exact H2_) | with_reducible exact H | (rw [hy134]; exact H) | exact H
               have Ny134 := Yt.mk hy134
               clear hy134
               have H' := Yt.mk H
               clear H
               have p132 : 0 ≤ (x31_2 : Int) := of_decide_eq_true (by first | (with_reducible assumption) | assumption)
               have q132 : x31_2 < (t122.length : Int) := of_decide_eq_true (by first | (with_reducible assumption) | assumption)
               obtain ⟨ad132, e132, hx132_0⟩ := Kd.at_int (Kd.Yn HO_29.out).2.2 x31_2 p132 q132
               cases e132
               replace p132 := eq_true p132
               replace q132 := eq_true q132
               obtain ⟨Ao24, co24, eo24⟩ := Kd.Zx HO_5.out
               subst eo24
               have p133 : 0 ≤ ((ji20) : Int) := of_decide_eq_true (by first | (with_reducible assumption) | assumption)
               have q133 : (ji20) < (x5_2.length : Int) := of_decide_eq_true (by first | (with_reducible assumption) | assumption)
               obtain ⟨ad133, e133, hx133_0⟩ := Kd.at_int (Kd.Zs HO_5.out).2.2 (ji20) p133 q133
               cases e133
               replace p133 := eq_true p133
               replace q133 := eq_true q133
               have p23 : 0 ≤ ((ji20) : Int) := of_decide_eq_true (by first | (with_reducible assumption) | assumption)
               have q23 : ((ji20) : Int) < ((x5_2.length : Int) : Int) := of_decide_eq_true (by first | (with_reducible assumption) | assumption)
               obtain ⟨go23, co23, eo23, gb23, gl23, cl23, HG23⟩ := Kd.R_form HO_5.out (by omega)
               (first | cases eo23 | (injection eo23 with ea_ en_ ec_; (first | subst ea_ | (injection ea_ with ea_; subst ea_)); subst ec_; clear en_))
               have GB23 := Yt.mk gb23
               have GG23 := Yt.mk HG23
               clear gb23 gl23 HG23
               (first | simp only [add_plain] at hx133_0 | skip)
               obtain ⟨hx23_0, hf23_0⟩ := Kd.R_celln 0 HO_5.out ((ji20) : Int) p23 q23
               replace p23 := eq_true p23
               replace q23 := eq_true q23
               obtain ⟨hy25_, hz25_⟩ := Kd.R_celln 0 HO_5.out ((ji20) : Int) (of_decide_eq_true (by first | (with_reducible assumption) | assumption)) (of_decide_eq_true (by first | (with_reducible assumption) | assumption))
               have HP25 := Kd.R_putg HO_5.out ((ji20) : Int) ((IntKind.u64.wrap ((IntKind.u64.wrap ((IntKind.u64.wrap ((IntKind.u64.wrap ((rd t119 x24_1))) * (IntKind.u64.wrap (rd t122 x31_2)))) + (IntKind.u64.wrap (rd x5_2 (ji20))))) + x8_2)) % 4294967296)
               go_wp2_with (first | ((with_reducible refine gate_store (t := 47) (p := 59) rfl ?_); refine store_event (t := 47) (p := 59) (v := ?vo_w26) (w1 := (wr.setCell ⟨go23, ((ji20) : Int).toNat, none⟩ (.int .u32 ((IntKind.u64.wrap ((IntKind.u64.wrap ((IntKind.u64.wrap ((IntKind.u64.wrap ((rd t119 x24_1))) * (IntKind.u64.wrap (rd t122 x31_2)))) + (IntKind.u64.wrap (rd x5_2 (ji20))))) + x8_2)) % 4294967296)))) ?hg ?ho ?hn ?hr ?_; (case ho => rfl); (case hg => rfl); (case hn => rfl); (case hr => first | (go_simp; done) | (go_simp; rfl)); intro w26 hw; have hg : wr.grownBy w26 (some go23) := (by rw [hw]; exact HP25.2); have hp_ : Kd.R (Kd.int .u32) 47 w26 w.heap.size (fun _ => True) (.slice (some ⟨go23, 0, none⟩) x5_2.length co24) y134 := (by rw [hw, Ny134.out]; exact HP25.1); clear HP25; have n0_ := Yt.mk (Kd.V_afterv (v := (.slice (some ⟨go23, 0, none⟩) x5_2.length co24)) (v1 := (.slice (some ⟨go23, 0, none⟩) x5_2.length co24)) (ok := (fun _ => True)) (by (with_reducible repeat (first | apply Kd.Zz | apply Kd.Zy | apply Kd.Ye)); exact Kd.Yp HO_1.out (fun _ hk => ⟨trivial, hk⟩)) hg (.inl rfl)); have n1_ := Yt.mk (hp_); have n2_ := Yt.mk (Kd.V_afterv (v := (.slice (some ⟨go23, 0, none⟩) x5_2.length co24)) (v1 := (.slice (some ⟨go23, 0, none⟩) x5_2.length co24)) (ok := (fun _ => True)) (by (with_reducible repeat (first | apply Kd.Zz | apply Kd.Zy | apply Kd.Ye)); exact Kd.Yp HO_22.out (fun _ hk => ⟨trivial, hk⟩)) hg (.inl rfl)); have n3_ := Yt.mk (Kd.V_afterv (v := (.slice (some ⟨go23, 0, none⟩) x5_2.length co24)) (v1 := (.slice (some ⟨go23, 0, none⟩) x5_2.length co24)) (ok := (fun _ => True)) (by (with_reducible repeat (first | apply Kd.Zz | apply Kd.Zy | apply Kd.Ye)); exact Kd.Yp HO_29.out (fun _ hk => ⟨trivial, hk⟩)) hg (.inl rfl)); have n4_ := Yt.mk ((by rw [hw]; exact Zd (HB.out) GB23.out : Below w.heap.size w w26)); clear HO_1; clear HO_5; clear HO_22; clear HO_29; clear HB; have HO_1 := n0_; have HO_5 := n1_; have HO_22 := n2_; have HO_29 := n3_; have HB := n4_; clear n0_ n1_ n2_ n3_ n4_; clear hg hw hp_))
               go_roundg k2
               case measure => have := HK1.out; have := HK2.out; omega
               case rel => exact ⟨(y134), ((IntKind.u64.wrap ((IntKind.u64.wrap ((IntKind.u64.wrap ((IntKind.u64.wrap ((rd t119 x24_1))) * (IntKind.u64.wrap (rd t122 x31_2)))) + (IntKind.u64.wrap (rd x5_2 (ji20))))) + x8_2)) / 4294967296), (wrap64 (x31_2 + 1)), (by first | rfl | (simp; done) | (simp only [← hji20] <;> (first | rfl | simp)) | (simp [*]; done)), (by first | rfl | (simp; done) | (simp [*]; done)), H', ⟨by have := HK1.out; have := HK2.out; omega⟩, ⟨by (with_reducible repeat (first | apply Kd.Zz | apply Kd.Zy | apply Kd.Ye)); exact Kd.Yp HO_1.out (fun _ hk => hk.2)⟩, ⟨by (with_reducible repeat (first | apply Kd.Zf | apply Kd.Ze | apply Kd.Zj)); exact HO_5.out⟩, ⟨by (with_reducible repeat (first | apply Kd.Zz | apply Kd.Zy | apply Kd.Ye)); exact Kd.Yp HO_22.out (fun _ hk => hk.2)⟩, ⟨by (with_reducible repeat (first | apply Kd.Zz | apply Kd.Zy | apply Kd.Ye)); exact Kd.Yp HO_29.out (fun _ hk => hk.2)⟩, ⟨by repeat (first | (with_reducible first | exact HB.out | apply Zb | apply Za | apply Zc) | exact HB.out)⟩⟩
              ·rw [if_neg c22] at H
               exact absurd H (by simp)
             ·rw [if_neg c21] at H
              exact absurd H (by simp)
            ·rw [if_neg c19] at H
             exact absurd H (by simp)
           ·rw [if_neg c18] at H
            exact absurd H (by simp)
          ·rw [if_neg c17] at H
           have c17b0 : decide (x31_2 < (t122.length : Int)) = false := decide_eq_false c17
           clear c17
           obtain ⟨ji27, hji27⟩ : ∃ j_ : Int, (wrap64 (x24_1 + (t122.length : Int))) = j_ := ⟨_, rfl⟩
           replace H : (if 0 ≤ (ji27) then (if (ji27) < (x5_2.length : Int) then (nats_Mul.l0 k2 t122 (x5_2.set ((ji27) : Int).toNat ((x8_2) % 4294967296)) t119 (t119.length : Int) (wrap64 (x24_1 + 1))) else (none)) else (none)) = some r := by first | (rw [hji27] at H; exact H) | (simp only [hji27] at H ⊢; exact H)
           have hji27w : (IntKind.i64.wrap (x24_1 + (t122.length : Int))) = ji27 := (Yi _).trans hji27
           by_cases c28 : 0 ≤ (ji27)
           ·rw [if_pos c28] at H
            have c28b0 : decide (0 ≤ (ji27)) = true := decide_eq_true c28
            clear c28
            by_cases c29 : (ji27) < (x5_2.length : Int)
            ·rw [if_pos c29] at H
             have c29b0 : decide ((ji27) < (x5_2.length : Int)) = true := decide_eq_true c29
             clear c29
             obtain ⟨y135, hy135⟩ : ∃ y_ : List Int, y_ = (x5_2.set ((ji27) : Int).toNat ((x8_2) % 4294967296)) := ⟨_, rfl⟩
             replace H : (nats_Mul.l0 k2 t122 y135 t119 (t119.length : Int) (wrap64 (x24_1 + 1))) = some r := by first | (rw [hy135]; with_reducible exact H) | (have H2_ := (Option.bind_some _ _).symm.trans H; rw [hy135]; with_reducible exact H2_) | (have H2_ := (Option.bind_some _ _).symm.trans H; with_reducible exact H2_) | with_reducible exact H | (rw [hy135]; exact H) | exact H
             have Ny135 := Yt.mk hy135
             clear hy135
             have H' := Yt.mk H
             clear H
             have p30 : 0 ≤ ((ji27) : Int) := of_decide_eq_true (by first | (with_reducible assumption) | assumption)
             have q30 : ((ji27) : Int) < ((x5_2.length : Int) : Int) := of_decide_eq_true (by first | (with_reducible assumption) | assumption)
             obtain ⟨go30, co30, eo30, gb30, gl30, cl30, HG30⟩ := Kd.R_form HO_5.out (by omega)
             (first | cases eo30 | (injection eo30 with ea_ en_ ec_; (first | subst ea_ | (injection ea_ with ea_; subst ea_)); subst ec_; clear en_))
             have GB30 := Yt.mk gb30
             have GG30 := Yt.mk HG30
             clear gb30 gl30 HG30
             obtain ⟨hx30_0, hf30_0⟩ := Kd.R_celln 0 HO_5.out ((ji27) : Int) p30 q30
             replace p30 := eq_true p30
             replace q30 := eq_true q30
             obtain ⟨hy31_, hz31_⟩ := Kd.R_celln 0 HO_5.out ((ji27) : Int) (of_decide_eq_true (by first | (with_reducible assumption) | assumption)) (of_decide_eq_true (by first | (with_reducible assumption) | assumption))
             have HP31 := Kd.R_putg HO_5.out ((ji27) : Int) ((x8_2) % 4294967296)
             go_wp2_with (first | ((with_reducible refine gate_store (t := 47) (p := 68) rfl ?_); refine store_event (t := 47) (p := 68) (v := ?vo_w32) (w1 := (wr.setCell ⟨go30, ((ji27) : Int).toNat, none⟩ (.int .u32 ((x8_2) % 4294967296)))) ?hg ?ho ?hn ?hr ?_; (case ho => rfl); (case hg => rfl); (case hn => rfl); (case hr => first | (go_simp; done) | (go_simp; rfl)); intro w32 hw; have hg : wr.grownBy w32 (some go30) := (by rw [hw]; exact HP31.2); have hp_ : Kd.R (Kd.int .u32) 47 w32 w.heap.size (fun _ => True) (.slice (some ⟨go30, 0, none⟩) x5_2.length co30) y135 := (by rw [hw, Ny135.out]; exact HP31.1); clear HP31; have n0_ := Yt.mk (Kd.V_afterv (v := (.slice (some ⟨go30, 0, none⟩) x5_2.length co30)) (v1 := (.slice (some ⟨go30, 0, none⟩) x5_2.length co30)) (ok := (fun _ => True)) (by (with_reducible repeat (first | apply Kd.Zz | apply Kd.Zy | apply Kd.Ye)); exact Kd.Yp HO_1.out (fun _ hk => ⟨trivial, hk⟩)) hg (.inl rfl)); have n1_ := Yt.mk (hp_); have n2_ := Yt.mk (Kd.V_afterv (v := (.slice (some ⟨go30, 0, none⟩) x5_2.length co30)) (v1 := (.slice (some ⟨go30, 0, none⟩) x5_2.length co30)) (ok := (fun _ => True)) (by (with_reducible repeat (first | apply Kd.Zz | apply Kd.Zy | apply Kd.Ye)); exact Kd.Yp HO_22.out (fun _ hk => ⟨trivial, hk⟩)) hg (.inl rfl)); have n3_ := Yt.mk (Kd.V_afterv (v := (.slice (some ⟨go30, 0, none⟩) x5_2.length co30)) (v1 := (.slice (some ⟨go30, 0, none⟩) x5_2.length co30)) (ok := (fun _ => True)) (by (with_reducible repeat (first | apply Kd.Zz | apply Kd.Zy | apply Kd.Ye)); exact Kd.Yp HO_29.out (fun _ hk => ⟨trivial, hk⟩)) hg (.inl rfl)); have n4_ := Yt.mk ((by rw [hw]; exact Zd (HB.out) GB30.out : Below w.heap.size w w32)); clear HO_1; clear HO_5; clear HO_22; clear HO_29; clear HB; have HO_1 := n0_; have HO_5 := n1_; have HO_22 := n2_; have HO_29 := n3_; have HB := n4_; clear n0_ n1_ n2_ n3_ n4_; clear hg hw hp_))
             go_roundg k2
             case measure => have := HK1.out; have := HK2.out; omega
             case rel => exact ⟨(y135), (wrap64 (x24_1 + 1)), (by first | rfl | (simp; done) | (simp [*]; done)), H', ⟨by have := HK1.out; have := HK2.out; omega⟩, ⟨by (with_reducible repeat (first | apply Kd.Zz | apply Kd.Zy | apply Kd.Ye)); exact Kd.Yp HO_1.out (fun _ hk => hk.2)⟩, ⟨by (with_reducible repeat (first | apply Kd.Zf | apply Kd.Ze | apply Kd.Zj)); exact HO_5.out⟩, ⟨by (with_reducible repeat (first | apply Kd.Zz | apply Kd.Zy | apply Kd.Ye)); exact Kd.Yp HO_22.out (fun _ hk => hk.2)⟩, ⟨by repeat (first | (with_reducible first | exact HB.out | apply Zb | apply Za | apply Zc) | exact HB.out)⟩⟩
            ·rw [if_neg c29] at H
             exact absurd H (by simp)
           ·rw [if_neg c28] at H
            exact absurd H (by simp)
       ·rw [if_neg c16] at H
        exact absurd H (by simp)
      ·rw [if_neg c15] at H
       exact absurd H (by simp)
     ·rw [if_neg c14] at H
      have c14b0 : decide (x24_1 < (t119.length : Int)) = false := decide_eq_false c14
      clear c14
      replace H := Option.bind_eq_some_iff.mp H
      obtain ⟨t128, A330, H⟩ := H
      replace H : (some t128) = some r := H
      have A33 := Yt.mk A330
      clear A330
      obtain rfl := Option.some.inj H
      obtain ⟨Ao34, co34, eo34⟩ := Kd.Zx HO_5.out
      subst eo34
      go_wp2_with (first | ((with_reducible refine Zr (f := 108) rfl ?_); refine Yg (some 71) rfl rfl Try.func108 (by kernel_rfl) rfl #[.slice Ao34 x5_1.length co34] rfl (by (try simp only [List.map_toArray, List.map_cons, List.map_nil]); first | done | rfl | (simp only [List.length_drop, List.length_take]; rfl)) ?_; (with_reducible refine (nats_cuto.calls k1 (fun k_ => some k_ = (.slice Ao34 x5_1.length co34 : Value).ownBlock) (.slice Ao34 x5_1.length co34) x5_1 t128 w _ ?side1 ?side2 A33.out).mono ?_); (case side1 => repeat (first | (with_reducible first | exact HB.out | apply Zb | apply Za | apply Zc) | exact HB.out)); (case side2 => exact Kd.R_tight rfl HO_5.out); rintro e w35 ⟨v129, rfl, ho0, hb, hkp⟩; refine ⟨_, rfl, ?_⟩; have n0_ := Yt.mk (Kd.Yp (ok' := fun k_ => some k_ ≠ (v129 : Value).ownBlock) (Kd.V_keptB (HO_1.out) hkp (fun k_ hk_ hs_ => (hk_) hs_)) (fun k_ hk_ => fun e_ => Or.elim (ho0.1 k_ e_.symm) (fun hs_ => hk_.2.1 hs_) (fun hn_ => Nat.not_le.2 hk_.2.2 hn_))); have n1_ := Yt.mk (Kd.Yp (ok' := fun k_ => some k_ ≠ (v129 : Value).ownBlock) (Kd.V_keptB (HO_22.out) hkp (fun k_ hk_ hs_ => (hk_) hs_)) (fun k_ hk_ => fun e_ => Or.elim (ho0.1 k_ e_.symm) (fun hs_ => hk_.2.1 hs_) (fun hn_ => Nat.not_le.2 hk_.2.2 hn_))); have n2_ := Yt.mk (Kd.Zv (ok' := fun k_ => True) ho0 (fun k_ hk_ => trivial)); have n3_ := Yt.mk (hb); clear HO_1; clear HO_22; clear HB; clear HO_5; have HO_1 := n0_; have HO_22 := n1_; have HO130 := n2_; have HB := n3_; clear n0_ n1_ n2_ n3_; (try clear hb); (try clear hkp); (try clear ho0)))
      go_ret
      exact ⟨_, by first | rfl | (simp [Zp, Zo] <;> rfl) | (simp only [← hji5]; first | rfl | (simp [Zp, Zo] <;> rfl)) | (simp [*, Zp, Zo] <;> rfl), by (with_reducible repeat (first | apply Kd.Zf | apply Kd.Ze | apply Kd.Zj)); exact HO130.out, by repeat (first | (with_reducible first | exact HB.out | apply Zb | apply Za | apply Zc) | exact HB.out)⟩
  ·rw [if_neg c7] at H
   exact absurd H (by simp)
 ·rw [if_neg c6] at H
  exact absurd H (by simp)
mutual
def nats_Add.j0 : Nat → List Int → List Int → Option (List Int)
 | 0, _, _ => none
 | k + 1, x0, x1 => if 0 ≤ (wrap64 ((x0.length : Int) + 1)) then (if (wrap64 ((x0.length : Int) + 1) : Int).toNat ≤ 70368744177664 then (nats_Add.l0 k x0 x1 (([] : List Int)) 0 (x0.length : Int) 0) else (none)) else (none)
def nats_Add.l0 : Nat → List Int → List Int → List Int → Int → Int → Int → Option (List Int)
 | 0, _, _, _, _, _, _ => none
 | k + 1, x0, x1, x5, x6, x22, x23 => if x23 < x22 then (if x23 < (x1.length : Int) then (if 0 ≤ x23 then (if x23 < (x0.length : Int) then ((bits_Add32.f (rd x0 x23) (rd x1 x23) x6).bind fun bt305 => (if x5.length < 35184372088832 then (nats_Add.l0 k x0 x1 (x5 ++ [bt305.1]) bt305.2 x22 (wrap64 (x23 + 1))) else (none))) else (none)) else (none)) else (if 0 ≤ x23 then (if x23 < (x0.length : Int) then ((bits_Add32.f (rd x0 x23) 0 x6).bind fun bt311 => (if x5.length < 35184372088832 then (nats_Add.l0 k x0 x1 (x5 ++ [bt311.1]) bt311.2 x22 (wrap64 (x23 + 1))) else (none))) else (none)) else (none))) else (if x5.length < 35184372088832 then ((nats_cuto.f k (x5 ++ [x6])).bind fun t319 => (some t319)) else (none))
end
def nats_Add.f (k : Nat) (l0 : List Int) (l1 : List Int) : Option (List Int) := if (l0.length : Int) < (l1.length : Int) then (nats_Add.j0 k l1 l0) else (nats_Add.j0 k l0 l1)
theorem nats_Add.mono_l : ∀ k, (∀ y0 y1, LeO (nats_Add.j0 k y0 y1) (nats_Add.j0 (k + 1) y0 y1)) ∧ (∀ y0 y1 y2 y3 y4 y5, LeO (nats_Add.l0 k y0 y1 y2 y3 y4 y5) (nats_Add.l0 (k + 1) y0 y1 y2 y3 y4 y5))
 | 0 => ⟨fun _ _ r h => by simp [nats_Add.j0] at h, fun _ _ _ _ _ _ r h => by simp [nats_Add.l0] at h⟩
 | k + 1 => by
  obtain ⟨ih0, ih1⟩ := nats_Add.mono_l k
  refine ⟨?_, ?_⟩
  ·intro y0 y1
   unfold nats_Add.j0
   repeat' first
   | (with_reducible exact ih0 _ _)
   | (with_reducible exact ih1 _ _ _ _ _ _)
   | (with_reducible exact nats_cuto.mono _ _)
   | (with_reducible exact LeO.refl _)
   | (with_reducible exact LeO.none _)
   | (with_reducible refine LeO.ite ?_ ?_)
   | (with_reducible refine LeO.bind ?_ (fun _ => ?_))
   | exact ih0 _ _
   | exact ih1 _ _ _ _ _ _
   | exact nats_cuto.mono _ _
   | exact LeO.none _
   | refine LeO.ite ?_ ?_
   | refine LeO.bind ?_ (fun _ => ?_)
  ·intro y0 y1 y2 y3 y4 y5
   unfold nats_Add.l0
   repeat' first
   | (with_reducible exact ih0 _ _)
   | (with_reducible exact ih1 _ _ _ _ _ _)
   | (with_reducible exact nats_cuto.mono _ _)
   | (with_reducible exact LeO.refl _)
   | (with_reducible exact LeO.none _)
   | (with_reducible refine LeO.ite ?_ ?_)
   | (with_reducible refine LeO.bind ?_ (fun _ => ?_))
   | exact ih0 _ _
   | exact ih1 _ _ _ _ _ _
   | exact nats_cuto.mono _ _
   | exact LeO.none _
   | refine LeO.ite ?_ ?_
   | refine LeO.bind ?_ (fun _ => ?_)
theorem nats_Add.mono : ∀ a0 a1 k, LeO (nats_Add.f k a0 a1) (nats_Add.f (k + 1) a0 a1) := by
 intro a0 a1 k
 obtain ⟨ih0, ih1⟩ := nats_Add.mono_l k
 unfold nats_Add.f
 repeat' first
   | (with_reducible exact ih0 _ _)
   | (with_reducible exact ih1 _ _ _ _ _ _)
   | (with_reducible exact nats_cuto.mono _ _)
   | (with_reducible exact LeO.refl _)
   | (with_reducible exact LeO.none _)
   | (with_reducible refine LeO.ite ?_ ?_)
   | (with_reducible refine LeO.bind ?_ (fun _ => ?_))
   | exact ih0 _ _
   | exact ih1 _ _ _ _ _ _
   | exact nats_cuto.mono _ _
   | exact LeO.none _
   | refine LeO.ite ?_ ?_
   | refine LeO.bind ?_ (fun _ => ?_)
set_option maxHeartbeats 8000000 in
set_option maxRecDepth 100000 in
theorem nats_Add.calls (k : Nat) (P0_ : Nat → Prop) (A0 : Option Addr) (c0 : Nat) (l0 : List Int) (P1_ : Nat → Prop) (A1 : Option Addr) (c1 : Nat) (l1 : List Int) (r : List Int) (w : World) (hs0 : Kd.V (Kd.int .u32) 47 w w.heap.size (fun k_ => P0_ k_) (.slice A0 l0.length c0) l0) (hs1 : Kd.V (Kd.int .u32) 47 w w.heap.size (fun k_ => P1_ k_) (.slice A1 l1.length c1) l1) (h : nats_Add.f k l0 l1 = some r) :
  Calls Try.prog 93 #[.slice A0 l0.length c0, .slice A1 l1.length c1] w fun e w' => ∃ v0_ : Value, e = .returned (v0_) ∧ Kd.R (Kd.int .u32) 47 w' w.heap.size (fun k_ => (w.heap.size ≤ k_)) v0_ r ∧ Below w.heap.size w w' := by
 have HO0 := Yt.mk (show Kd.V (Kd.int .u32) 47 w w.heap.size (fun k_ => ((P0_ k_ ∨ P1_ k_) ∨ w.heap.size ≤ k_)) (.slice A0 l0.length c0) l0 from Kd.Yp hs0 (fun k_ hk => .inl (.inl hk)))
 have HO1 := Yt.mk (show Kd.V (Kd.int .u32) 47 w w.heap.size (fun k_ => ((P0_ k_ ∨ P1_ k_) ∨ w.heap.size ≤ k_)) (.slice A1 l1.length c1) l1 from Kd.Yp hs1 (fun k_ hk => .inl (.inr hk)))
 have HB := Yt.mk (Below.refl w.heap.size w)
 have H : (if (l0.length : Int) < (l1.length : Int) then (nats_Add.j0 k l1 l0) else (nats_Add.j0 k l0 l1)) = some r := h
 clear h
 have HC3 := Yt.mk H
 clear H
 go_enter Try.func93, Try.ntmps93
 go_upto_if 14 with (fail)
 go_cut [0, 1] (fun v0 v1 wc => ∃ (kq : Nat) (x0_2 : List Int) (x1_2 : List Int), Yt (nats_Add.j0 kq x0_2 x1_2 = some r) ∧ Yt (kq ≤ k) ∧ Yt (Kd.V (Kd.int .u32) 47 wc w.heap.size (fun k_ => ((P0_ k_ ∨ P1_ k_) ∨ w.heap.size ≤ k_)) v0 x0_2) ∧ Yt (Kd.V (Kd.int .u32) 47 wc w.heap.size (fun k_ => ((P0_ k_ ∨ P1_ k_) ∨ w.heap.size ≤ k_)) v1 x1_2) ∧ Yt (Below w.heap.size w wc))
 case first =>
  have H := HC3.out
  clear HC3
  by_cases c4 : (l0.length : Int) < (l1.length : Int)
  ·rw [if_pos c4] at H
   have c4b0 : decide ((l0.length : Int) < (l1.length : Int)) = true := decide_eq_true c4
   have c4b1 : decide (l0.length < l1.length) = true := decide_eq_true (Int.ofNat_lt.mp c4)
   clear c4
   (first | rw [c4b0] | rw [c4b1] | (simp only [Yi, Yj]; rw [c4b0]) | skip)
   have H' := Yt.mk H
   clear H
   go_wp2
   go_meet
   case rel => exact ⟨_, (l1), (l0), H', ⟨by first | omega | exact Nat.le_refl _⟩, ⟨by (with_reducible repeat (first | apply Kd.Zz | apply Kd.Zy | apply Kd.Ye)); exact HO1.out⟩, ⟨by (with_reducible repeat (first | apply Kd.Zz | apply Kd.Zy | apply Kd.Ye)); exact HO0.out⟩, ⟨by repeat (first | (with_reducible first | exact HB.out | apply Zb | apply Za | apply Zc) | exact HB.out)⟩⟩
  ·rw [if_neg c4] at H
   have c4b0 : decide ((l0.length : Int) < (l1.length : Int)) = false := decide_eq_false c4
   have c4b1 : decide (l0.length < l1.length) = false := decide_eq_false (fun h => c4 (Int.ofNat_lt.mpr h))
   clear c4
   (first | rw [c4b0] | rw [c4b1] | (simp only [Yi, Yj]; rw [c4b0]) | skip)
   have H' := Yt.mk H
   clear H
   go_wp2
   go_meet
   case rel => exact ⟨_, (l0), (l1), H', ⟨by first | omega | exact Nat.le_refl _⟩, ⟨by (with_reducible repeat (first | apply Kd.Zz | apply Kd.Zy | apply Kd.Ye)); exact HO0.out⟩, ⟨by (with_reducible repeat (first | apply Kd.Zz | apply Kd.Zy | apply Kd.Ye)); exact HO1.out⟩, ⟨by repeat (first | (with_reducible first | exact HB.out | apply Zb | apply Za | apply Zc) | exact HB.out)⟩⟩
 case rest =>
  clear HC3
  try clear c1
  try clear p2
  try clear c4
  try clear c4b0
  try clear c4b1
  obtain ⟨kq, x0_2, x1_2, HA, HJ2, HO_0, HO_1, HB⟩ := hcut
  cases kq with
  | zero => exact absurd HA.out (by simp [nats_Add.j0])
  | succ kj2 =>
   have H := HA.out
   clear HA
   simp only [nats_Add.j0] at H
   obtain ⟨ji5, hji5⟩ : ∃ j_ : Int, (wrap64 ((x0_2.length : Int) + 1)) = j_ := ⟨_, rfl⟩
   replace H : (if 0 ≤ (ji5) then (if (ji5 : Int).toNat ≤ 70368744177664 then (nats_Add.l0 kj2 x0_2 x1_2 (([] : List Int)) 0 (x0_2.length : Int) 0) else (none)) else (none)) = some r := by first | (rw [hji5] at H; exact H) | (simp only [hji5] at H ⊢; exact H)
   have hji5w : (IntKind.i64.wrap ((x0_2.length : Int) + 1)) = ji5 := (Yi _).trans hji5
   by_cases c6 : 0 ≤ (ji5)
   ·rw [if_pos c6] at H
    have c6b0 := eq_true c6
    have c6b1 : decide (0 ≤ (ji5)) = true := decide_eq_true c6
    clear c6
    by_cases c7 : (ji5 : Int).toNat ≤ 70368744177664
    ·rw [if_pos c7] at H
     have c7b0 := eq_true c7
     have c7b1 : decide ((ji5 : Int).toNat ≤ 70368744177664) = true := decide_eq_true c7
     clear c7
     obtain ⟨y300, hy300⟩ : ∃ y_ : List Int, y_ = (([] : List Int)) := ⟨_, rfl⟩
     replace H : (nats_Add.l0 kj2 x0_2 x1_2 y300 0 (x0_2.length : Int) 0) = some r := by first | (rw [hy300]; with_reducible exact H) | (have H2_ := (Option.bind_some _ _).symm.trans H; rw [hy300]; with_reducible exact H2_) | (have H2_ := (Option.bind_some _ _).symm.trans H; with_reducible exact H2_) | with_reducible exact H | (rw [hy300]; exact H) | exact H
     have Ny300 := Yt.mk hy300
     clear hy300
     have H' := Yt.mk H
     clear H
     obtain ⟨Ao8, co8, eo8⟩ := Kd.V_slice HO_0.out
     subst eo8
     go_wp2_with (first | ((with_reducible refine Yk (N := 20) rfl ?_); refine Mine.R_make0 (Kd.int .u32) _ 47 rfl (N := 20) rfl 22 _ _ rfl ji5 rfl rfl Try.underlying22 (.int .u32 0) 4 info47 rfl (by decide) (by omega) 0 (ok := fun _ => True) (okp := fun _ => True) rfl (fun _ hk => hk) trivial (of_decide_eq_true (by first | (with_reducible assumption) | assumption)) (Nat.le_trans (Nat.mul_le_mul_right _ (of_decide_eq_true (by first | (with_reducible assumption) | assumption) : ji5.toNat ≤ 70368744177664)) (by omega)) (Below.refl _ _) (Nat.le_refl _) ?_; intro v301 w9 ho10 hb hg_ hnew_; clear hg_ hnew_; (first | rw [← Ny300.out] at ho10 | (simp only [Int.reduceToNat] at ho10; rw [← Ny300.out] at ho10)); have n0_ := Yt.mk (Kd.V_elder' (by (with_reducible repeat (first | apply Kd.Zz | apply Kd.Zy | apply Kd.Ye)); exact HO_0.out) (Kd.Zw ho10) hb); have n1_ := Yt.mk (Kd.V_elder' (by (with_reducible repeat (first | apply Kd.Zz | apply Kd.Zy | apply Kd.Ye)); exact HO_1.out) (Kd.Zw ho10) hb); have n2_ := Yt.mk (Kd.Yb (Kd.R_newM (M := fun k_ => (w.heap.size ≤ k_)) ho10 (Zk (by repeat (first | (with_reducible first | exact HB.out | apply Zb | apply Za | apply Zc) | exact HB.out))) (fun k_ h_ => h_)) (Zk (by repeat (first | (with_reducible first | exact HB.out | apply Zb | apply Za | apply Zc) | exact HB.out)))); have n3_ := Yt.mk (Zm (by repeat (first | (with_reducible first | exact HB.out | apply Zb | apply Za | apply Zc) | exact HB.out)) hb); clear HO_0; clear HO_1; clear HB; have HO_0 := n0_; have HO_1 := n1_; have HO302 := n2_; have HB := n3_; clear n0_ n1_ n2_ n3_; clear hb ho10))
     go_loopg [5, 6, 23] kj2 (fun kq v5 v6 v23 w' => ∃ (x5_2 : List Int) (x6_2 : Int) (x23_2 : Int), v6 = .int .u32 x6_2 ∧ v23 = .int .i64 x23_2 ∧ Yt (nats_Add.l0 kq x0_2 x1_2 x5_2 x6_2 (x0_2.length : Int) x23_2 = some r) ∧ Yt (kq ≤ kj2) ∧ Yt (Kd.V (Kd.int .u32) 47 w' w.heap.size (fun k_ => ((P0_ k_ ∨ P1_ k_) ∨ w.heap.size ≤ k_) ∧ some k_ ≠ (v5 : Value).ownBlock) (.slice Ao8 x0_2.length co8) x0_2) ∧ Yt (Kd.V (Kd.int .u32) 47 w' w.heap.size (fun k_ => ((P0_ k_ ∨ P1_ k_) ∨ w.heap.size ≤ k_) ∧ some k_ ≠ (v5 : Value).ownBlock) u1 x1_2) ∧ Yt (Kd.R (Kd.int .u32) 47 w' w.heap.size (fun k_ => (w.heap.size ≤ k_)) v5 x5_2) ∧ Yt (Below w.heap.size w w'))
     case atStart => exact ⟨(y300), (0), (0), (by first | rfl | (simp; done) | (simp [*]; done)), (by first | rfl | (simp; done) | (simp [*]; done)), H', ⟨Nat.le_refl _⟩, ⟨by (with_reducible repeat (first | apply Kd.Zz | apply Kd.Zy | apply Kd.Ye)); exact HO_0.out⟩, ⟨by (with_reducible repeat (first | apply Kd.Zz | apply Kd.Zy | apply Kd.Ye)); exact HO_1.out⟩, ⟨by (with_reducible repeat (first | apply Kd.Zf | apply Kd.Ze | apply Kd.Zj)); exact Kd.Zv HO302.out (fun _ hk => hk.1)⟩, ⟨by repeat (first | (with_reducible first | exact HB.out | apply Zb | apply Za | apply Zc) | exact HB.out)⟩⟩
     case round =>
      clear H'
      try clear c1
      try clear p2
      try clear c4
      try clear c4b0
      try clear c4b1
      try clear c6
      try clear c6b0
      try clear c6b1
      try clear p6
      try clear c7
      try clear c7b0
      try clear c7b1
      try clear c9
      try clear p2
      obtain ⟨x5_2, x6_2, x23_2, rfl, rfl, HA, HK2, HO_0, HO_1, HO_5, HB⟩ := hrel
      cases gk with
      | zero => exact absurd HA.out (by simp [nats_Add.l0])
      | succ k2 =>
       have H := HA.out
       clear HA
       simp only [nats_Add.l0] at H
       by_cases c11 : x23_2 < (x0_2.length : Int)
       ·rw [if_pos c11] at H
        have c11b0 : decide (x23_2 < (x0_2.length : Int)) = true := decide_eq_true c11
        clear c11
        by_cases c12 : x23_2 < (x1_2.length : Int)
        ·rw [if_pos c12] at H
         have c12b0 : decide (x23_2 < (x1_2.length : Int)) = true := decide_eq_true c12
         clear c12
         by_cases c13 : 0 ≤ x23_2
         ·rw [if_pos c13] at H
          have c13b0 : decide (0 ≤ x23_2) = true := decide_eq_true c13
          clear c13
          by_cases c14 : x23_2 < (x0_2.length : Int)
          ·rw [if_pos c14] at H
           have c14b0 : decide (x23_2 < (x0_2.length : Int)) = true := decide_eq_true c14
           clear c14
           replace H := Option.bind_eq_some_iff.mp H
           obtain ⟨⟨t305, t306⟩, A150, H⟩ := H
           try dsimp only at H
           have A15 := Yt.mk A150
           clear A150
           by_cases c16 : x5_2.length < 35184372088832
           ·rw [if_pos c16] at H
            have LMc16 := Yt.mk c16
            clear c16
            obtain ⟨y307, hy307⟩ : ∃ y_ : List Int, y_ = (x5_2 ++ [t305]) := ⟨_, rfl⟩
            replace H : (nats_Add.l0 k2 x0_2 x1_2 y307 t306 (x0_2.length : Int) (wrap64 (x23_2 + 1))) = some r := by first | (rw [hy307]; with_reducible exact H) | (have H2_ := (Option.bind_some _ _).symm.trans H; rw [hy307]; with_reducible exact H2_) | (have H2_ := (Option.bind_some _ _).symm.trans H; with_reducible exact H2_) | with_reducible exact H | (rw [hy307]; exact H) | exact H
            have Ny307 := Yt.mk hy307
            clear hy307
            have H' := Yt.mk H
            clear H
            obtain ⟨Ao17, co17, eo17⟩ := Kd.V_slice HO_1.out
            subst eo17
            have p303 : 0 ≤ (x23_2 : Int) := of_decide_eq_true (by first | (with_reducible assumption) | assumption)
            have q303 : x23_2 < (x1_2.length : Int) := of_decide_eq_true (by first | (with_reducible assumption) | assumption)
            obtain ⟨ad303, e303, hx303_0⟩ := Kd.at_int (Kd.Yn HO_1.out).2.2 x23_2 p303 q303
            cases e303
            replace p303 := eq_true p303
            replace q303 := eq_true q303
            have p304 : 0 ≤ (x23_2 : Int) := of_decide_eq_true (by first | (with_reducible assumption) | assumption)
            have q304 : x23_2 < (x0_2.length : Int) := of_decide_eq_true (by first | (with_reducible assumption) | assumption)
            obtain ⟨ad304, e304, hx304_0⟩ := Kd.at_int (Kd.Yn HO_0.out).2.2 x23_2 p304 q304
            cases e304
            replace p304 := eq_true p304
            replace q304 := eq_true q304
            go_wp2_with (first | ((with_reducible refine Zr (f := 115) rfl ?_); refine Yg (some 41) rfl rfl Try.func115 (by kernel_rfl) rfl #[.int .u32 (rd x0_2 x23_2), .int .u32 (rd x1_2 x23_2), .int .u32 x6_2] rfl (by (try simp only [List.map_toArray, List.map_cons, List.map_nil]); first | done | rfl | (simp only [List.length_drop, List.length_take]; rfl)) ?_; (with_reducible refine (bits_Add32.calls (rd x0_2 x23_2) (rd x1_2 x23_2) x6_2 t305 t306 _ A15.out).mono ?_); rintro e w' ⟨rfl, ⟨nd, rfl⟩⟩; refine ⟨_, rfl, ?_⟩) | ((with_reducible refine gate_builtin (b := .append) (xs := #[.tmp 44, .tmp 46]) rfl ?_); at_builtin; refine Kd.R_append (Kd.int .u32) (w0 := w) w.heap.size rfl (.tmp 44) (.tmp 46) 22 47 (.int .u32 0) 4 rfl Try.underlying22 info47 rfl (by decide) (by omega) u5 x5_2 t305 [.int .u32 t305] (fun k_ => (w.heap.size ≤ k_)) (fun _ => False) rfl rfl ?aP (fun _ hk => hk.elim) ?aF ?aO ?aB ?aS ?aL ?_; (case aP => exact rfl); (case aB => exact (by repeat (first | (with_reducible first | exact HB.out | apply Zb | apply Za | apply Zc) | exact HB.out))); (case aF => exact (fun k_ hk => (Nat.le_trans (Zk (by repeat (first | (with_reducible first | exact HB.out | apply Zb | apply Za | apply Zc) | exact HB.out))) hk))); (case aO => exact (by (with_reducible repeat (first | apply Kd.Zf | apply Kd.Ze | apply Kd.Zj)); exact HO_5.out)); (case aS => exact (Zk (by repeat (first | (with_reducible first | exact HB.out | apply Zb | apply Za | apply Zc) | exact HB.out)))); (case aL => have := LMc16.out; omega); intro v308 w18 ho hb hg hat; rw [← Ny307.out] at ho; have n0_ := Yt.mk (Kd.V_afterv (ok := (fun k_ => ((P0_ k_ ∨ P1_ k_) ∨ w.heap.size ≤ k_))) (by (with_reducible repeat (first | apply Kd.Zz | apply Kd.Zy | apply Kd.Ye)); exact HO_0.out) hg hat); have n1_ := Yt.mk (Kd.V_afterv (ok := (fun k_ => ((P0_ k_ ∨ P1_ k_) ∨ w.heap.size ≤ k_))) (by (with_reducible repeat (first | apply Kd.Zz | apply Kd.Zy | apply Kd.Ye)); exact HO_1.out) hg hat); have n2_ := Yt.mk (hb); have n3_ := Yt.mk (ho); clear HO_0; clear HO_1; clear HB; clear HO_5; have HO_0 := n0_; have HO_1 := n1_; have HB := n2_; have HO309 := n3_; clear n0_ n1_ n2_ n3_; clear ho hb hg hat))
            go_roundg k2
            case measure => have := HJ2.out; have := HK2.out; omega
            case rel => exact ⟨(y307), (t306), (wrap64 (x23_2 + 1)), (by first | rfl | (simp; done) | (simp [*]; done)), (by first | rfl | (simp; done) | (simp [*]; done)), H', ⟨by have := HJ2.out; have := HK2.out; omega⟩, ⟨by (with_reducible repeat (first | apply Kd.Zz | apply Kd.Zy | apply Kd.Ye)); exact HO_0.out⟩, ⟨by (with_reducible repeat (first | apply Kd.Zz | apply Kd.Zy | apply Kd.Ye)); exact HO_1.out⟩, ⟨by (with_reducible repeat (first | apply Kd.Zf | apply Kd.Ze | apply Kd.Zj)); exact HO309.out⟩, ⟨by repeat (first | (with_reducible first | exact HB.out | apply Zb | apply Za | apply Zc) | exact HB.out)⟩⟩
           ·rw [if_neg c16] at H
            exact absurd H (by simp)
          ·rw [if_neg c14] at H
           exact absurd H (by simp)
         ·rw [if_neg c13] at H
          exact absurd H (by simp)
        ·rw [if_neg c12] at H
         have c12b0 : decide (x23_2 < (x1_2.length : Int)) = false := decide_eq_false c12
         clear c12
         by_cases c19 : 0 ≤ x23_2
         ·rw [if_pos c19] at H
          have c19b0 : decide (0 ≤ x23_2) = true := decide_eq_true c19
          clear c19
          by_cases c20 : x23_2 < (x0_2.length : Int)
          ·rw [if_pos c20] at H
           have c20b0 : decide (x23_2 < (x0_2.length : Int)) = true := decide_eq_true c20
           clear c20
           replace H := Option.bind_eq_some_iff.mp H
           obtain ⟨⟨t311, t312⟩, A210, H⟩ := H
           try dsimp only at H
           have A21 := Yt.mk A210
           clear A210
           by_cases c22 : x5_2.length < 35184372088832
           ·rw [if_pos c22] at H
            have LMc22 := Yt.mk c22
            clear c22
            obtain ⟨y313, hy313⟩ : ∃ y_ : List Int, y_ = (x5_2 ++ [t311]) := ⟨_, rfl⟩
            replace H : (nats_Add.l0 k2 x0_2 x1_2 y313 t312 (x0_2.length : Int) (wrap64 (x23_2 + 1))) = some r := by first | (rw [hy313]; with_reducible exact H) | (have H2_ := (Option.bind_some _ _).symm.trans H; rw [hy313]; with_reducible exact H2_) | (have H2_ := (Option.bind_some _ _).symm.trans H; with_reducible exact H2_) | with_reducible exact H | (rw [hy313]; exact H) | exact H
            have Ny313 := Yt.mk hy313
            clear hy313
            have H' := Yt.mk H
            clear H
            obtain ⟨Ao23, co23, eo23⟩ := Kd.V_slice HO_1.out
            subst eo23
            have p310 : 0 ≤ (x23_2 : Int) := of_decide_eq_true (by first | (with_reducible assumption) | assumption)
            have q310 : x23_2 < (x0_2.length : Int) := of_decide_eq_true (by first | (with_reducible assumption) | assumption)
            obtain ⟨ad310, e310, hx310_0⟩ := Kd.at_int (Kd.Yn HO_0.out).2.2 x23_2 p310 q310
            cases e310
            replace p310 := eq_true p310
            replace q310 := eq_true q310
            go_wp2_with (first | ((with_reducible refine Zr (f := 115) rfl ?_); refine Yg (some 41) rfl rfl Try.func115 (by kernel_rfl) rfl #[.int .u32 (rd x0_2 x23_2), .int .u32 0, .int .u32 x6_2] rfl (by (try simp only [List.map_toArray, List.map_cons, List.map_nil]); first | done | rfl | (simp only [List.length_drop, List.length_take]; rfl)) ?_; (with_reducible refine (bits_Add32.calls (rd x0_2 x23_2) 0 x6_2 t311 t312 _ A21.out).mono ?_); rintro e w' ⟨rfl, ⟨nd, rfl⟩⟩; refine ⟨_, rfl, ?_⟩) | ((with_reducible refine gate_builtin (b := .append) (xs := #[.tmp 44, .tmp 46]) rfl ?_); at_builtin; refine Kd.R_append (Kd.int .u32) (w0 := w) w.heap.size rfl (.tmp 44) (.tmp 46) 22 47 (.int .u32 0) 4 rfl Try.underlying22 info47 rfl (by decide) (by omega) u5 x5_2 t311 [.int .u32 t311] (fun k_ => (w.heap.size ≤ k_)) (fun _ => False) rfl rfl ?aP (fun _ hk => hk.elim) ?aF ?aO ?aB ?aS ?aL ?_; (case aP => exact rfl); (case aB => exact (by repeat (first | (with_reducible first | exact HB.out | apply Zb | apply Za | apply Zc) | exact HB.out))); (case aF => exact (fun k_ hk => (Nat.le_trans (Zk (by repeat (first | (with_reducible first | exact HB.out | apply Zb | apply Za | apply Zc) | exact HB.out))) hk))); (case aO => exact (by (with_reducible repeat (first | apply Kd.Zf | apply Kd.Ze | apply Kd.Zj)); exact HO_5.out)); (case aS => exact (Zk (by repeat (first | (with_reducible first | exact HB.out | apply Zb | apply Za | apply Zc) | exact HB.out)))); (case aL => have := LMc22.out; omega); intro v314 w24 ho hb hg hat; rw [← Ny313.out] at ho; have n0_ := Yt.mk (Kd.V_afterv (ok := (fun k_ => ((P0_ k_ ∨ P1_ k_) ∨ w.heap.size ≤ k_))) (by (with_reducible repeat (first | apply Kd.Zz | apply Kd.Zy | apply Kd.Ye)); exact HO_0.out) hg hat); have n1_ := Yt.mk (Kd.V_afterv (ok := (fun k_ => ((P0_ k_ ∨ P1_ k_) ∨ w.heap.size ≤ k_))) (by (with_reducible repeat (first | apply Kd.Zz | apply Kd.Zy | apply Kd.Ye)); exact HO_1.out) hg hat); have n2_ := Yt.mk (hb); have n3_ := Yt.mk (ho); clear HO_0; clear HO_1; clear HB; clear HO_5; have HO_0 := n0_; have HO_1 := n1_; have HB := n2_; have HO315 := n3_; clear n0_ n1_ n2_ n3_; clear ho hb hg hat))
            go_roundg k2
            case measure => have := HJ2.out; have := HK2.out; omega
            case rel => exact ⟨(y313), (t312), (wrap64 (x23_2 + 1)), (by first | rfl | (simp; done) | (simp [*]; done)), (by first | rfl | (simp; done) | (simp [*]; done)), H', ⟨by have := HJ2.out; have := HK2.out; omega⟩, ⟨by (with_reducible repeat (first | apply Kd.Zz | apply Kd.Zy | apply Kd.Ye)); exact HO_0.out⟩, ⟨by (with_reducible repeat (first | apply Kd.Zz | apply Kd.Zy | apply Kd.Ye)); exact HO_1.out⟩, ⟨by (with_reducible repeat (first | apply Kd.Zf | apply Kd.Ze | apply Kd.Zj)); exact HO315.out⟩, ⟨by repeat (first | (with_reducible first | exact HB.out | apply Zb | apply Za | apply Zc) | exact HB.out)⟩⟩
           ·rw [if_neg c22] at H
            exact absurd H (by simp)
          ·rw [if_neg c20] at H
           exact absurd H (by simp)
         ·rw [if_neg c19] at H
          exact absurd H (by simp)
       ·rw [if_neg c11] at H
        have c11b0 : decide (x23_2 < (x0_2.length : Int)) = false := decide_eq_false c11
        clear c11
        by_cases c25 : x5_2.length < 35184372088832
        ·rw [if_pos c25] at H
         have LMc25 := Yt.mk c25
         clear c25
         obtain ⟨y316, hy316⟩ : ∃ y_ : List Int, y_ = (x5_2 ++ [x6_2]) := ⟨_, rfl⟩
         replace H : ((nats_cuto.f k2 y316).bind fun t319 => (some t319)) = some r := by first | (rw [hy316]; with_reducible exact H) | (have H2_ := (Option.bind_some _ _).symm.trans H; rw [hy316]; with_reducible exact H2_) | (have H2_ := (Option.bind_some _ _).symm.trans H; with_reducible exact H2_) | with_reducible exact H | (rw [hy316]; exact H) | exact H
         have Ny316 := Yt.mk hy316
         clear hy316
         replace H := Option.bind_eq_some_iff.mp H
         obtain ⟨t319, A260, H⟩ := H
         replace H : (some t319) = some r := H
         have A26 := Yt.mk A260
         clear A260
         obtain rfl := Option.some.inj H
         go_wp2_with (first | ((with_reducible refine gate_builtin (b := .append) (xs := #[.tmp 49, .tmp 51]) rfl ?_); at_builtin; refine Kd.R_append (Kd.int .u32) (w0 := w) w.heap.size rfl (.tmp 49) (.tmp 51) 22 47 (.int .u32 0) 4 rfl Try.underlying22 info47 rfl (by decide) (by omega) u5 x5_2 x6_2 [.int .u32 x6_2] (fun k_ => (w.heap.size ≤ k_)) (fun _ => False) rfl rfl ?aP (fun _ hk => hk.elim) ?aF ?aO ?aB ?aS ?aL ?_; (case aP => exact rfl); (case aB => exact (by repeat (first | (with_reducible first | exact HB.out | apply Zb | apply Za | apply Zc) | exact HB.out))); (case aF => exact (fun k_ hk => (Nat.le_trans (Zk (by repeat (first | (with_reducible first | exact HB.out | apply Zb | apply Za | apply Zc) | exact HB.out))) hk))); (case aO => exact (by (with_reducible repeat (first | apply Kd.Zf | apply Kd.Ze | apply Kd.Zj)); exact HO_5.out)); (case aS => exact (Zk (by repeat (first | (with_reducible first | exact HB.out | apply Zb | apply Za | apply Zc) | exact HB.out)))); (case aL => have := LMc25.out; omega); intro v317 w27 ho hb hg hat; rw [← Ny316.out] at ho; have n0_ := Yt.mk (Kd.V_afterv (ok := (fun k_ => ((P0_ k_ ∨ P1_ k_) ∨ w.heap.size ≤ k_))) (by (with_reducible repeat (first | apply Kd.Zz | apply Kd.Zy | apply Kd.Ye)); exact HO_0.out) hg hat); have n1_ := Yt.mk (Kd.V_afterv (ok := (fun k_ => ((P0_ k_ ∨ P1_ k_) ∨ w.heap.size ≤ k_))) (by (with_reducible repeat (first | apply Kd.Zz | apply Kd.Zy | apply Kd.Ye)); exact HO_1.out) hg hat); have n2_ := Yt.mk (hb); have n3_ := Yt.mk (ho); clear HO_0; clear HO_1; clear HB; clear HO_5; have HO_0 := n0_; have HO_1 := n1_; have HB := n2_; have HO318 := n3_; clear n0_ n1_ n2_ n3_; clear ho hb hg hat; obtain ⟨Ao28, co28, eo28⟩ := Kd.Zx HO318.out; subst eo28) | ((with_reducible refine Zr (f := 108) rfl ?_); refine Yg (some 53) rfl rfl Try.func108 (by kernel_rfl) rfl #[.slice Ao28 y316.length co28] rfl (by (try simp only [List.map_toArray, List.map_cons, List.map_nil]); first | done | rfl | (simp only [List.length_drop, List.length_take]; rfl)) ?_; (with_reducible refine (nats_cuto.calls k2 (fun k_ => some k_ = (.slice Ao28 y316.length co28 : Value).ownBlock) (.slice Ao28 y316.length co28) y316 t319 w _ ?side1 ?side2 A26.out).mono ?_); (case side1 => repeat (first | (with_reducible first | exact HB.out | apply Zb | apply Za | apply Zc) | exact HB.out)); (case side2 => exact Kd.R_tight rfl HO318.out); rintro e w29 ⟨v320, rfl, ho0, hb, hkp⟩; refine ⟨_, rfl, ?_⟩; have n0_ := Yt.mk (Kd.Yp (ok' := fun k_ => ((P0_ k_ ∨ P1_ k_) ∨ w.heap.size ≤ k_) ∧ some k_ ≠ (v320 : Value).ownBlock) (Kd.V_keptB (HO_0.out) hkp (fun k_ hk_ hs_ => (hk_.2) hs_)) (fun k_ hk_ => ⟨hk_.1.1, fun e_ => Or.elim (ho0.1 k_ e_.symm) (fun hs_ => hk_.2.1 hs_) (fun hn_ => Nat.not_le.2 hk_.2.2 hn_)⟩)); have n1_ := Yt.mk (Kd.Yp (ok' := fun k_ => ((P0_ k_ ∨ P1_ k_) ∨ w.heap.size ≤ k_) ∧ some k_ ≠ (v320 : Value).ownBlock) (Kd.V_keptB (HO_1.out) hkp (fun k_ hk_ hs_ => (hk_.2) hs_)) (fun k_ hk_ => ⟨hk_.1.1, fun e_ => Or.elim (ho0.1 k_ e_.symm) (fun hs_ => hk_.2.1 hs_) (fun hn_ => Nat.not_le.2 hk_.2.2 hn_)⟩)); have n2_ := Yt.mk (Kd.Zv (ok' := fun k_ => (w.heap.size ≤ k_)) ho0 (fun k_ hk_ => Or.elim hk_ (fun hs_ => (HO318.out.1 k_ (hs_).symm)) (fun hn_ => (Nat.le_trans (Zk (by repeat (first | (with_reducible first | exact HB.out | apply Zb | apply Za | apply Zc) | exact HB.out))) hn_)))); have n3_ := Yt.mk (hb); clear HO_0; clear HO_1; clear HB; clear HO318; have HO_0 := n0_; have HO_1 := n1_; have HO321 := n2_; have HB := n3_; clear n0_ n1_ n2_ n3_; (try clear hb); (try clear hkp); (try clear ho0)))
         go_ret
         exact ⟨_, by first | rfl | (simp [Zp, Zo] <;> rfl) | (simp only [← hji5]; first | rfl | (simp [Zp, Zo] <;> rfl)) | (simp [*, Zp, Zo] <;> rfl), by (with_reducible repeat (first | apply Kd.Zf | apply Kd.Ze | apply Kd.Zj)); exact HO321.out, by repeat (first | (with_reducible first | exact HB.out | apply Zb | apply Za | apply Zc) | exact HB.out)⟩
        ·rw [if_neg c25] at H
         exact absurd H (by simp)
    ·rw [if_neg c7] at H
     exact absurd H (by simp)
   ·rw [if_neg c6] at H
    exact absurd H (by simp)
def bits_Sub32.f (a0 : Int) (a1 : Int) (a2 : Int) : Option (Int × Int) := some ((((a0 - a1) % 4294967296) - a2) % 4294967296, (Go.bits .or .u32 (Go.bits .and .u32 (Go.bits .xor .u32 4294967295 a0) a1) (Go.bits .and .u32 (Go.bits .xor .u32 4294967295 (Go.bits .xor .u32 a0 a1)) ((((a0 - a1) % 4294967296) - a2) % 4294967296))) / 2147483648)
set_option maxHeartbeats 8000000 in
set_option maxRecDepth 100000 in
theorem bits_Sub32.calls (a0 : Int) (a1 : Int) (a2 : Int) (r1 : Int) (r2 : Int) (w : World) (h : bits_Sub32.f a0 a1 a2 = some (r1, r2)) :
  Calls Try.prog 116 #[.int .u32 a0, .int .u32 a1, .int .u32 a2] w fun e w' => e = .returned (.tuple #[.int .u32 r1, .int .u32 r2]) ∧ Drawn0 w w' := by
 have H : (some ((((a0 - a1) % 4294967296) - a2) % 4294967296, (Go.bits .or .u32 (Go.bits .and .u32 (Go.bits .xor .u32 4294967295 a0) a1) (Go.bits .and .u32 (Go.bits .xor .u32 4294967295 (Go.bits .xor .u32 a0 a1)) ((((a0 - a1) % 4294967296) - a2) % 4294967296))) / 2147483648)) = some (r1, r2) := h
 clear h
 simp only [Option.some.injEq, Prod.mk.injEq] at H
 obtain ⟨rfl, rfl⟩ := H
 go_enter Try.func116, Try.ntmps116
 go_wp2
 go_ret2
 exact ⟨by first | rfl | (simp; done) | (simp [*]; done), by repeat (first | exact Drawn0.refl _ | apply Drawn0.step)⟩
def nats_Sub.l0 : Nat → List Int → List Int → List Int → Int → Int → Int → Option (List Int)
 | 0, _, _, _, _, _, _ => none
 | k + 1, x0, x1, x5, x6, x17, x18 => if x18 < x17 then (if x18 < (x1.length : Int) then (if 0 ≤ x18 then (if x18 < (x0.length : Int) then ((bits_Sub32.f (rd x0 x18) (rd x1 x18) x6).bind fun bt862 => (if x18 < (x5.length : Int) then (nats_Sub.l0 k x0 x1 (x5.set (x18 : Int).toNat bt862.1) bt862.2 x17 (wrap64 (x18 + 1))) else (none))) else (none)) else (none)) else (if 0 ≤ x18 then (if x18 < (x0.length : Int) then ((bits_Sub32.f (rd x0 x18) 0 x6).bind fun bt866 => (if x18 < (x5.length : Int) then (nats_Sub.l0 k x0 x1 (x5.set (x18 : Int).toNat bt866.1) bt866.2 x17 (wrap64 (x18 + 1))) else (none))) else (none)) else (none))) else ((nats_cuto.f k x5).bind fun t869 => (some t869))
def nats_Sub.f (k : Nat) (l0 : List Int) (l1 : List Int) : Option (List Int) := (nats_cut.f k l0).bind fun t851 => ((nats_cut.f k l1).bind fun t854 => (if 0 ≤ (t851.length : Int) then (if ((t851.length : Int) : Int).toNat ≤ 70368744177664 then (nats_Sub.l0 k t851 t854 (List.replicate ((t851.length : Int) : Int).toNat 0) 0 (t851.length : Int) 0) else (none)) else (none)))
theorem nats_Sub.mono_l : ∀ k, (∀ y0 y1 y2 y3 y4 y5, LeO (nats_Sub.l0 k y0 y1 y2 y3 y4 y5) (nats_Sub.l0 (k + 1) y0 y1 y2 y3 y4 y5))
 | 0 => fun _ _ _ _ _ _ r h => by simp [nats_Sub.l0] at h
 | k + 1 => by
  have ih0 := nats_Sub.mono_l k
  ·intro y0 y1 y2 y3 y4 y5
   unfold nats_Sub.l0
   repeat' first
   | (with_reducible exact ih0 _ _ _ _ _ _)
   | (with_reducible exact nats_cut.mono _ _)
   | (with_reducible exact nats_cuto.mono _ _)
   | (with_reducible exact LeO.refl _)
   | (with_reducible exact LeO.none _)
   | (with_reducible refine LeO.ite ?_ ?_)
   | (with_reducible refine LeO.bind ?_ (fun _ => ?_))
   | exact ih0 _ _ _ _ _ _
   | exact nats_cut.mono _ _
   | exact nats_cuto.mono _ _
   | exact LeO.none _
   | refine LeO.ite ?_ ?_
   | refine LeO.bind ?_ (fun _ => ?_)
theorem nats_Sub.mono : ∀ a0 a1 k, LeO (nats_Sub.f k a0 a1) (nats_Sub.f (k + 1) a0 a1) := by
 intro a0 a1 k
 have ih0 := nats_Sub.mono_l k
 unfold nats_Sub.f
 repeat' first
   | (with_reducible exact ih0 _ _ _ _ _ _)
   | (with_reducible exact nats_cut.mono _ _)
   | (with_reducible exact nats_cuto.mono _ _)
   | (with_reducible exact LeO.refl _)
   | (with_reducible exact LeO.none _)
   | (with_reducible refine LeO.ite ?_ ?_)
   | (with_reducible refine LeO.bind ?_ (fun _ => ?_))
   | exact ih0 _ _ _ _ _ _
   | exact nats_cut.mono _ _
   | exact nats_cuto.mono _ _
   | exact LeO.none _
   | refine LeO.ite ?_ ?_
   | refine LeO.bind ?_ (fun _ => ?_)
set_option maxHeartbeats 8000000 in
set_option maxRecDepth 100000 in
theorem nats_Sub.calls (k : Nat) (A0 : Option Addr) (c0 : Nat) (l0 : List Int) (A1 : Option Addr) (c1 : Nat) (l1 : List Int) (r : List Int) (w : World) (hr0 : Kd.C (Kd.int .u32) w A0 l0.length l0) (hc0 : l0.length ≤ c0) (hr1 : Kd.C (Kd.int .u32) w A1 l1.length l1) (hc1 : l1.length ≤ c1) (h : nats_Sub.f k l0 l1 = some r) :
  Calls Try.prog 94 #[.slice A0 l0.length c0, .slice A1 l1.length c1] w fun e w' => ∃ v0_ : Value, e = .returned (v0_) ∧ Kd.R (Kd.int .u32) 47 w' w.heap.size (fun _ => True) v0_ r ∧ Below w.heap.size w w' := by
 have HR0 := Yt.mk hr0
 have HC0 := Yt.mk hc0
 clear hr0 hc0
 have HR1 := Yt.mk hr1
 have HC1 := Yt.mk hc1
 clear hr1 hc1
 have HB := Yt.mk (Below.refl w.heap.size w)
 have H : ((nats_cut.f k l0).bind fun t851 => ((nats_cut.f k l1).bind fun t854 => (if 0 ≤ (t851.length : Int) then (if ((t851.length : Int) : Int).toNat ≤ 70368744177664 then (nats_Sub.l0 k t851 t854 (List.replicate ((t851.length : Int) : Int).toNat 0) 0 (t851.length : Int) 0) else (none)) else (none)))) = some r := h
 clear h
 replace H := Option.bind_eq_some_iff.mp H
 obtain ⟨t851, A30, H⟩ := H
 try dsimp only at H
 have A3 := Yt.mk A30
 clear A30
 replace H := Option.bind_eq_some_iff.mp H
 obtain ⟨t854, A40, H⟩ := H
 try dsimp only at H
 have A4 := Yt.mk A40
 clear A40
 by_cases c5 : 0 ≤ (t851.length : Int)
 ·rw [if_pos c5] at H
  have c5b0 := eq_true c5
  have c5b1 : decide (0 ≤ (t851.length : Int)) = true := decide_eq_true c5
  clear c5
  by_cases c6 : ((t851.length : Int) : Int).toNat ≤ 70368744177664
  ·rw [if_pos c6] at H
   have c6b0 := eq_true c6
   have c6b1 : decide (((t851.length : Int) : Int).toNat ≤ 70368744177664) = true := decide_eq_true c6
   clear c6
   obtain ⟨y857, hy857⟩ : ∃ y_ : List Int, y_ = (List.replicate ((t851.length : Int) : Int).toNat 0) := ⟨_, rfl⟩
   replace H : (nats_Sub.l0 k t851 t854 y857 0 (t851.length : Int) 0) = some r := by first | (rw [hy857]; with_reducible exact H) | (have H2_ := (Option.bind_some _ _).symm.trans H; rw [hy857]; with_reducible exact H2_) | (have H2_ := (Option.bind_some _ _).symm.trans H; with_reducible exact H2_) | with_reducible exact H | (rw [hy857]; exact H) | exact H
   have Ny857 := Yt.mk hy857
   clear hy857
   have H' := Yt.mk H
   clear H
   go_enter Try.func94, Try.ntmps94
   go_wp2_with (first | ((with_reducible refine Zr (f := 108) rfl ?_); refine Yg (some 10) rfl rfl Try.func108 (by kernel_rfl) rfl #[.slice A0 l0.length c0] rfl (by (try simp only [List.map_toArray, List.map_cons, List.map_nil]); first | done | rfl | (simp only [List.length_drop, List.length_take]; rfl)) ?_; (with_reducible refine (nats_cut.calls k (fun k_ => k_ < w.heap.size) _ _ l0 t851 _ ?side1 A3.out).mono ?_); (case side1 => exact Kd.V_mk HC0.out (Kd.F_below (Kd.C_F (Kd.heap_int .u32) HR0.out) (by repeat (first | (with_reducible first | exact HB.out | apply Zb | apply Za | apply Zc) | exact HB.out)))); rintro e w7 ⟨v852, rfl, ho0, hb⟩; refine ⟨_, rfl, ?_⟩; have n0_ := Yt.mk (Kd.V_lower (Kd.Yp (ok' := fun k_ => True) ho0 (fun k_ hk_ => trivial)) (Zk (by repeat (first | (with_reducible first | exact HB.out | apply Zb | apply Za | apply Zc) | exact HB.out)))); have n1_ := Yt.mk (Zm (by repeat (first | (with_reducible first | exact HB.out | apply Zb | apply Za | apply Zc) | exact HB.out)) hb); clear HB; have HO853 := n0_; have HB := n1_; clear n0_ n1_; (try clear hb); (try clear hb2); (try clear hk); (try clear hi); (try clear ho0)) | ((with_reducible refine Zr (f := 108) rfl ?_); refine Yg (some 12) rfl rfl Try.func108 (by kernel_rfl) rfl #[.slice A1 l1.length c1] rfl (by (try simp only [List.map_toArray, List.map_cons, List.map_nil]); first | done | rfl | (simp only [List.length_drop, List.length_take]; rfl)) ?_; (with_reducible refine (nats_cut.calls k (fun k_ => k_ < w.heap.size) _ _ l1 t854 _ ?side1 A4.out).mono ?_); (case side1 => exact Kd.V_mk HC1.out (Kd.F_below (Kd.C_F (Kd.heap_int .u32) HR1.out) (by repeat (first | (with_reducible first | exact HB.out | apply Zb | apply Za | apply Zc) | exact HB.out)))); rintro e w8 ⟨v855, rfl, ho0, hb⟩; refine ⟨_, rfl, ?_⟩; have n0_ := Yt.mk (Kd.Yr (by (with_reducible repeat (first | apply Kd.Zz | apply Kd.Zy | apply Kd.Ye)); exact HO853.out) hb); have n1_ := Yt.mk (Kd.V_lower (Kd.Yp (ok' := fun k_ => True) ho0 (fun k_ hk_ => trivial)) (Zk (by repeat (first | (with_reducible first | exact HB.out | apply Zb | apply Za | apply Zc) | exact HB.out)))); have n2_ := Yt.mk (Zm (by repeat (first | (with_reducible first | exact HB.out | apply Zb | apply Za | apply Zc) | exact HB.out)) hb); clear HO853; clear HB; have HO853 := n0_; have HO856 := n1_; have HB := n2_; clear n0_ n1_ n2_; (try clear hb); (try clear hb2); (try clear hk); (try clear hi); (try clear ho0); obtain ⟨Ao9, co9, eo9⟩ := Kd.V_slice HO853.out; subst eo9) | ((with_reducible refine Yk (N := 15) rfl ?_); refine Kd.R_make (Kd.int .u32) _ 47 rfl (N := 15) rfl 22 _ _ rfl (t851.length : Int) rfl rfl Try.underlying22 (.int .u32 0) 4 info47 rfl (by decide) (by omega) 0 (ok := fun _ => True) (okp := fun _ => True) rfl (fun _ hk => hk) trivial (of_decide_eq_true (by first | (with_reducible assumption) | assumption)) (Nat.le_trans (Nat.mul_le_mul_right _ (of_decide_eq_true (by first | (with_reducible assumption) | assumption) : (t851.length : Int).toNat ≤ 70368744177664)) (by omega)) (Below.refl _ _) (Nat.le_refl _) ?_; intro v858 w10 ho11 hb hg_ hnew_; clear hg_ hnew_; (first | rw [← Ny857.out] at ho11 | (simp only [Int.reduceToNat] at ho11; rw [← Ny857.out] at ho11)); have n0_ := Yt.mk (Kd.V_elder' (by (with_reducible repeat (first | apply Kd.Zz | apply Kd.Zy | apply Kd.Ye)); exact HO853.out) (Kd.Zw ho11) hb); have n1_ := Yt.mk (Kd.V_elder' (by (with_reducible repeat (first | apply Kd.Zz | apply Kd.Zy | apply Kd.Ye)); exact HO856.out) (Kd.Zw ho11) hb); have n2_ := Yt.mk (Kd.Yb ho11 (Zk (by repeat (first | (with_reducible first | exact HB.out | apply Zb | apply Za | apply Zc) | exact HB.out)))); have n3_ := Yt.mk (Zm (by repeat (first | (with_reducible first | exact HB.out | apply Zb | apply Za | apply Zc) | exact HB.out)) hb); clear HO853; clear HO856; clear HB; have HO853 := n0_; have HO856 := n1_; have HO859 := n2_; have HB := n3_; clear n0_ n1_ n2_ n3_; clear hb ho11))
   go_loopg [6, 18] k (fun kq v6 v18 w' => ∃ (x5_1 : List Int) (x6_1 : Int) (x18_1 : Int), v6 = .int .u32 x6_1 ∧ v18 = .int .i64 x18_1 ∧ Yt (nats_Sub.l0 kq t851 t854 x5_1 x6_1 (t851.length : Int) x18_1 = some r) ∧ Yt (kq ≤ k) ∧ Yt (Kd.V (Kd.int .u32) 47 w' w.heap.size (fun k_ => some k_ ≠ (v858 : Value).ownBlock) (.slice Ao9 t851.length co9) t851) ∧ Yt (Kd.V (Kd.int .u32) 47 w' w.heap.size (fun k_ => some k_ ≠ (v858 : Value).ownBlock) v855 t854) ∧ Yt (Kd.R (Kd.int .u32) 47 w' w.heap.size (fun _ => True) v858 x5_1) ∧ Yt (Below w.heap.size w w'))
   case atStart => exact ⟨(y857), (0), (0), (by first | rfl | (simp; done) | (simp [*]; done)), (by first | rfl | (simp; done) | (simp [*]; done)), H', ⟨Nat.le_refl _⟩, ⟨by (with_reducible repeat (first | apply Kd.Zz | apply Kd.Zy | apply Kd.Ye)); exact Kd.Yp HO853.out (fun _ hk => hk.2)⟩, ⟨by (with_reducible repeat (first | apply Kd.Zz | apply Kd.Zy | apply Kd.Ye)); exact Kd.Yp HO856.out (fun _ hk => hk.2)⟩, ⟨by (with_reducible repeat (first | apply Kd.Zf | apply Kd.Ze | apply Kd.Zj)); exact HO859.out⟩, ⟨by repeat (first | (with_reducible first | exact HB.out | apply Zb | apply Za | apply Zc) | exact HB.out)⟩⟩
   case round =>
    clear H'
    try clear c1
    try clear p2
    try clear c5
    try clear c5b0
    try clear c5b1
    try clear c6
    try clear c6b0
    try clear c6b1
    try clear c9
    try clear c10
    obtain ⟨x5_1, x6_1, x18_1, rfl, rfl, HA, HK1, HO_0, HO_1, HO_5, HB⟩ := hrel
    cases gk with
    | zero => exact absurd HA.out (by simp [nats_Sub.l0])
    | succ k1 =>
     have H := HA.out
     clear HA
     simp only [nats_Sub.l0] at H
     by_cases c12 : x18_1 < (t851.length : Int)
     ·rw [if_pos c12] at H
      have c12b0 : decide (x18_1 < (t851.length : Int)) = true := decide_eq_true c12
      clear c12
      by_cases c13 : x18_1 < (t854.length : Int)
      ·rw [if_pos c13] at H
       have c13b0 : decide (x18_1 < (t854.length : Int)) = true := decide_eq_true c13
       clear c13
       by_cases c14 : 0 ≤ x18_1
       ·rw [if_pos c14] at H
        have c14b0 : decide (0 ≤ x18_1) = true := decide_eq_true c14
        clear c14
        by_cases c15 : x18_1 < (t851.length : Int)
        ·rw [if_pos c15] at H
         have c15b0 : decide (x18_1 < (t851.length : Int)) = true := decide_eq_true c15
         clear c15
         replace H := Option.bind_eq_some_iff.mp H
         obtain ⟨⟨t862, t863⟩, A160, H⟩ := H
         try dsimp only at H
         have A16 := Yt.mk A160
         clear A160
         by_cases c17 : x18_1 < (x5_1.length : Int)
         ·rw [if_pos c17] at H
          have c17b0 : decide (x18_1 < (x5_1.length : Int)) = true := decide_eq_true c17
          clear c17
          obtain ⟨y864, hy864⟩ : ∃ y_ : List Int, y_ = (x5_1.set (x18_1 : Int).toNat t862) := ⟨_, rfl⟩
          replace H : (nats_Sub.l0 k1 t851 t854 y864 t863 (t851.length : Int) (wrap64 (x18_1 + 1))) = some r := by first | (rw [hy864]; with_reducible exact H) | (have H2_ := (Option.bind_some _ _).symm.trans H; rw [hy864]; with_reducible exact H2_) | (have H2_ := (Option.bind_some _ _).symm.trans H; with_reducible exact H2_) | with_reducible exact H | (rw [hy864]; exact H) | exact H
          have Ny864 := Yt.mk hy864
          clear hy864
          have H' := Yt.mk H
          clear H
          obtain ⟨Ao19, co19, eo19⟩ := Kd.V_slice HO_1.out
          subst eo19
          have p860 : 0 ≤ (x18_1 : Int) := of_decide_eq_true (by first | (with_reducible assumption) | assumption)
          have q860 : x18_1 < (t854.length : Int) := of_decide_eq_true (by first | (with_reducible assumption) | assumption)
          obtain ⟨ad860, e860, hx860_0⟩ := Kd.at_int (Kd.Yn HO_1.out).2.2 x18_1 p860 q860
          cases e860
          replace p860 := eq_true p860
          replace q860 := eq_true q860
          have p861 : 0 ≤ (x18_1 : Int) := of_decide_eq_true (by first | (with_reducible assumption) | assumption)
          have q861 : x18_1 < (t851.length : Int) := of_decide_eq_true (by first | (with_reducible assumption) | assumption)
          obtain ⟨ad861, e861, hx861_0⟩ := Kd.at_int (Kd.Yn HO_0.out).2.2 x18_1 p861 q861
          cases e861
          replace p861 := eq_true p861
          replace q861 := eq_true q861
          go_wp2_with (first | ((with_reducible refine Zr (f := 116) rfl ?_); refine Yg (some 38) rfl rfl Try.func116 (by kernel_rfl) rfl #[.int .u32 (rd t851 x18_1), .int .u32 (rd t854 x18_1), .int .u32 x6_1] rfl (by (try simp only [List.map_toArray, List.map_cons, List.map_nil]); first | done | rfl | (simp only [List.length_drop, List.length_take]; rfl)) ?_; (with_reducible refine (bits_Sub32.calls (rd t851 x18_1) (rd t854 x18_1) x6_1 t862 t863 _ A16.out).mono ?_); rintro e w' ⟨rfl, ⟨nd, rfl⟩⟩; refine ⟨_, rfl, ?_⟩; (try (rw [drewN_self wr]; generalize hq_ : World.drewN wr _ = wr; have n0_ : Yt (Kd.V (Kd.int .u32) 47 wr w.heap.size (fun k_ => some k_ ≠ (v858 : Value).ownBlock) (.slice (some ad861) t851.length co9) t851) := ⟨by rw [← hq_]; exact (by (with_reducible repeat (first | apply Kd.Zz | apply Kd.Zy | apply Kd.Ye)); exact HO_0.out)⟩; have n1_ : Yt (Kd.V (Kd.int .u32) 47 wr w.heap.size (fun k_ => some k_ ≠ (v858 : Value).ownBlock) (.slice (some ad860) t854.length co19) t854) := ⟨by rw [← hq_]; exact (by (with_reducible repeat (first | apply Kd.Zz | apply Kd.Zy | apply Kd.Ye)); exact HO_1.out)⟩; have n2_ : Yt (Kd.R (Kd.int .u32) 47 wr w.heap.size (fun _ => True) v858 x5_1) := ⟨by rw [← hq_]; exact (by (with_reducible repeat (first | apply Kd.Zf | apply Kd.Ze | apply Kd.Zj)); exact HO_5.out)⟩; have n3_ : Yt (Below w.heap.size w wr) := ⟨by rw [← hq_]; exact (by repeat (first | (with_reducible first | exact HB.out | apply Zb | apply Za | apply Zc) | exact HB.out))⟩; clear HO_0 HO_1 HO_5 HB hq_; have HO_0 := n0_; have HO_1 := n1_; have HO_5 := n2_; have HB := n3_; clear n0_ n1_ n2_ n3_)); have p18 : 0 ≤ (x18_1 : Int) := of_decide_eq_true (by first | (with_reducible assumption) | assumption); have q18 : (x18_1 : Int) < ((x5_1.length : Int) : Int) := of_decide_eq_true (by first | (with_reducible assumption) | assumption); obtain ⟨go18, co18, eo18, gb18, gl18, cl18, HG18⟩ := Kd.R_form HO_5.out (by omega); (first | cases eo18 | (injection eo18 with ea_ en_ ec_; (first | subst ea_ | (injection ea_ with ea_; subst ea_)); subst ec_; clear en_)); have GB18 := Yt.mk gb18; have GG18 := Yt.mk HG18; clear gb18 gl18 HG18; obtain ⟨hx18_0, hf18_0⟩ := Kd.R_celln 0 HO_5.out (x18_1 : Int) p18 q18; replace p18 := eq_true p18; replace q18 := eq_true q18; obtain ⟨hy20_, hz20_⟩ := Kd.R_celln 0 HO_5.out (x18_1 : Int) (of_decide_eq_true (by first | (with_reducible assumption) | assumption)) (of_decide_eq_true (by first | (with_reducible assumption) | assumption)); have HP20 := Kd.R_putg HO_5.out (x18_1 : Int) t862) | ((with_reducible refine gate_store (t := 47) (p := 41) rfl ?_); refine store_event (t := 47) (p := 41) (v := ?vo_w21) (w1 := (wr.setCell ⟨go18, (x18_1 : Int).toNat, none⟩ (.int .u32 t862))) ?hg ?ho ?hn ?hr ?_; (case ho => rfl); (case hg => rfl); (case hn => rfl); (case hr => first | (go_simp; done) | (go_simp; rfl)); intro w21 hw; have hg : wr.grownBy w21 (some go18) := (by rw [hw]; exact HP20.2); have hp_ : Kd.R (Kd.int .u32) 47 w21 w.heap.size (fun _ => True) (.slice (some ⟨go18, 0, none⟩) x5_1.length co18) y864 := (by rw [hw, Ny864.out]; exact HP20.1); clear HP20; have n0_ := Yt.mk (Kd.V_afterv (v := (.slice (some ⟨go18, 0, none⟩) x5_1.length co18)) (v1 := (.slice (some ⟨go18, 0, none⟩) x5_1.length co18)) (ok := (fun _ => True)) (by (with_reducible repeat (first | apply Kd.Zz | apply Kd.Zy | apply Kd.Ye)); exact Kd.Yp HO_0.out (fun _ hk => ⟨trivial, hk⟩)) hg (.inl rfl)); have n1_ := Yt.mk (Kd.V_afterv (v := (.slice (some ⟨go18, 0, none⟩) x5_1.length co18)) (v1 := (.slice (some ⟨go18, 0, none⟩) x5_1.length co18)) (ok := (fun _ => True)) (by (with_reducible repeat (first | apply Kd.Zz | apply Kd.Zy | apply Kd.Ye)); exact Kd.Yp HO_1.out (fun _ hk => ⟨trivial, hk⟩)) hg (.inl rfl)); have n2_ := Yt.mk (hp_); have n3_ := Yt.mk ((by rw [hw]; exact Zd (HB.out) GB18.out : Below w.heap.size w w21)); clear HO_0; clear HO_1; clear HO_5; clear HB; have HO_0 := n0_; have HO_1 := n1_; have HO_5 := n2_; have HB := n3_; clear n0_ n1_ n2_ n3_; clear hg hw hp_))
          go_roundg k1
          case measure => have := HK1.out; omega
          case rel => exact ⟨(y864), (t863), (wrap64 (x18_1 + 1)), (by first | rfl | (simp; done) | (simp [*]; done)), (by first | rfl | (simp; done) | (simp [*]; done)), H', ⟨by have := HK1.out; omega⟩, ⟨by (with_reducible repeat (first | apply Kd.Zz | apply Kd.Zy | apply Kd.Ye)); exact Kd.Yp HO_0.out (fun _ hk => hk.2)⟩, ⟨by (with_reducible repeat (first | apply Kd.Zz | apply Kd.Zy | apply Kd.Ye)); exact Kd.Yp HO_1.out (fun _ hk => hk.2)⟩, ⟨by (with_reducible repeat (first | apply Kd.Zf | apply Kd.Ze | apply Kd.Zj)); exact HO_5.out⟩, ⟨by repeat (first | (with_reducible first | exact HB.out | apply Zb | apply Za | apply Zc) | exact HB.out)⟩⟩
         ·rw [if_neg c17] at H
          exact absurd H (by simp)
        ·rw [if_neg c15] at H
         exact absurd H (by simp)
       ·rw [if_neg c14] at H
        exact absurd H (by simp)
      ·rw [if_neg c13] at H
       have c13b0 : decide (x18_1 < (t854.length : Int)) = false := decide_eq_false c13
       clear c13
       by_cases c22 : 0 ≤ x18_1
       ·rw [if_pos c22] at H
        have c22b0 : decide (0 ≤ x18_1) = true := decide_eq_true c22
        clear c22
        by_cases c23 : x18_1 < (t851.length : Int)
        ·rw [if_pos c23] at H
         have c23b0 : decide (x18_1 < (t851.length : Int)) = true := decide_eq_true c23
         clear c23
         replace H := Option.bind_eq_some_iff.mp H
         obtain ⟨⟨t866, t867⟩, A240, H⟩ := H
         try dsimp only at H
         have A24 := Yt.mk A240
         clear A240
         by_cases c25 : x18_1 < (x5_1.length : Int)
         ·rw [if_pos c25] at H
          have c25b0 : decide (x18_1 < (x5_1.length : Int)) = true := decide_eq_true c25
          clear c25
          obtain ⟨y868, hy868⟩ : ∃ y_ : List Int, y_ = (x5_1.set (x18_1 : Int).toNat t866) := ⟨_, rfl⟩
          replace H : (nats_Sub.l0 k1 t851 t854 y868 t867 (t851.length : Int) (wrap64 (x18_1 + 1))) = some r := by first | (rw [hy868]; with_reducible exact H) | (have H2_ := (Option.bind_some _ _).symm.trans H; rw [hy868]; with_reducible exact H2_) | (have H2_ := (Option.bind_some _ _).symm.trans H; with_reducible exact H2_) | with_reducible exact H | (rw [hy868]; exact H) | exact H
          have Ny868 := Yt.mk hy868
          clear hy868
          have H' := Yt.mk H
          clear H
          obtain ⟨Ao27, co27, eo27⟩ := Kd.V_slice HO_1.out
          subst eo27
          have p865 : 0 ≤ (x18_1 : Int) := of_decide_eq_true (by first | (with_reducible assumption) | assumption)
          have q865 : x18_1 < (t851.length : Int) := of_decide_eq_true (by first | (with_reducible assumption) | assumption)
          obtain ⟨ad865, e865, hx865_0⟩ := Kd.at_int (Kd.Yn HO_0.out).2.2 x18_1 p865 q865
          cases e865
          replace p865 := eq_true p865
          replace q865 := eq_true q865
          go_wp2_with (first | ((with_reducible refine Zr (f := 116) rfl ?_); refine Yg (some 38) rfl rfl Try.func116 (by kernel_rfl) rfl #[.int .u32 (rd t851 x18_1), .int .u32 0, .int .u32 x6_1] rfl (by (try simp only [List.map_toArray, List.map_cons, List.map_nil]); first | done | rfl | (simp only [List.length_drop, List.length_take]; rfl)) ?_; (with_reducible refine (bits_Sub32.calls (rd t851 x18_1) 0 x6_1 t866 t867 _ A24.out).mono ?_); rintro e w' ⟨rfl, ⟨nd, rfl⟩⟩; refine ⟨_, rfl, ?_⟩; (try (rw [drewN_self wr]; generalize hq_ : World.drewN wr _ = wr; have n0_ : Yt (Kd.V (Kd.int .u32) 47 wr w.heap.size (fun k_ => some k_ ≠ (v858 : Value).ownBlock) (.slice (some ad865) t851.length co9) t851) := ⟨by rw [← hq_]; exact (by (with_reducible repeat (first | apply Kd.Zz | apply Kd.Zy | apply Kd.Ye)); exact HO_0.out)⟩; have n1_ : Yt (Kd.V (Kd.int .u32) 47 wr w.heap.size (fun k_ => some k_ ≠ (v858 : Value).ownBlock) (.slice Ao27 t854.length co27) t854) := ⟨by rw [← hq_]; exact (by (with_reducible repeat (first | apply Kd.Zz | apply Kd.Zy | apply Kd.Ye)); exact HO_1.out)⟩; have n2_ : Yt (Kd.R (Kd.int .u32) 47 wr w.heap.size (fun _ => True) v858 x5_1) := ⟨by rw [← hq_]; exact (by (with_reducible repeat (first | apply Kd.Zf | apply Kd.Ze | apply Kd.Zj)); exact HO_5.out)⟩; have n3_ : Yt (Below w.heap.size w wr) := ⟨by rw [← hq_]; exact (by repeat (first | (with_reducible first | exact HB.out | apply Zb | apply Za | apply Zc) | exact HB.out))⟩; clear HO_0 HO_1 HO_5 HB hq_; have HO_0 := n0_; have HO_1 := n1_; have HO_5 := n2_; have HB := n3_; clear n0_ n1_ n2_ n3_)); have p26 : 0 ≤ (x18_1 : Int) := of_decide_eq_true (by first | (with_reducible assumption) | assumption); have q26 : (x18_1 : Int) < ((x5_1.length : Int) : Int) := of_decide_eq_true (by first | (with_reducible assumption) | assumption); obtain ⟨go26, co26, eo26, gb26, gl26, cl26, HG26⟩ := Kd.R_form HO_5.out (by omega); (first | cases eo26 | (injection eo26 with ea_ en_ ec_; (first | subst ea_ | (injection ea_ with ea_; subst ea_)); subst ec_; clear en_)); have GB26 := Yt.mk gb26; have GG26 := Yt.mk HG26; clear gb26 gl26 HG26; obtain ⟨hx26_0, hf26_0⟩ := Kd.R_celln 0 HO_5.out (x18_1 : Int) p26 q26; replace p26 := eq_true p26; replace q26 := eq_true q26; obtain ⟨hy28_, hz28_⟩ := Kd.R_celln 0 HO_5.out (x18_1 : Int) (of_decide_eq_true (by first | (with_reducible assumption) | assumption)) (of_decide_eq_true (by first | (with_reducible assumption) | assumption)); have HP28 := Kd.R_putg HO_5.out (x18_1 : Int) t866) | ((with_reducible refine gate_store (t := 47) (p := 41) rfl ?_); refine store_event (t := 47) (p := 41) (v := ?vo_w29) (w1 := (wr.setCell ⟨go26, (x18_1 : Int).toNat, none⟩ (.int .u32 t866))) ?hg ?ho ?hn ?hr ?_; (case ho => rfl); (case hg => rfl); (case hn => rfl); (case hr => first | (go_simp; done) | (go_simp; rfl)); intro w29 hw; have hg : wr.grownBy w29 (some go26) := (by rw [hw]; exact HP28.2); have hp_ : Kd.R (Kd.int .u32) 47 w29 w.heap.size (fun _ => True) (.slice (some ⟨go26, 0, none⟩) x5_1.length co26) y868 := (by rw [hw, Ny868.out]; exact HP28.1); clear HP28; have n0_ := Yt.mk (Kd.V_afterv (v := (.slice (some ⟨go26, 0, none⟩) x5_1.length co26)) (v1 := (.slice (some ⟨go26, 0, none⟩) x5_1.length co26)) (ok := (fun _ => True)) (by (with_reducible repeat (first | apply Kd.Zz | apply Kd.Zy | apply Kd.Ye)); exact Kd.Yp HO_0.out (fun _ hk => ⟨trivial, hk⟩)) hg (.inl rfl)); have n1_ := Yt.mk (Kd.V_afterv (v := (.slice (some ⟨go26, 0, none⟩) x5_1.length co26)) (v1 := (.slice (some ⟨go26, 0, none⟩) x5_1.length co26)) (ok := (fun _ => True)) (by (with_reducible repeat (first | apply Kd.Zz | apply Kd.Zy | apply Kd.Ye)); exact Kd.Yp HO_1.out (fun _ hk => ⟨trivial, hk⟩)) hg (.inl rfl)); have n2_ := Yt.mk (hp_); have n3_ := Yt.mk ((by rw [hw]; exact Zd (HB.out) GB26.out : Below w.heap.size w w29)); clear HO_0; clear HO_1; clear HO_5; clear HB; have HO_0 := n0_; have HO_1 := n1_; have HO_5 := n2_; have HB := n3_; clear n0_ n1_ n2_ n3_; clear hg hw hp_))
          go_roundg k1
          case measure => have := HK1.out; omega
          case rel => exact ⟨(y868), (t867), (wrap64 (x18_1 + 1)), (by first | rfl | (simp; done) | (simp [*]; done)), (by first | rfl | (simp; done) | (simp [*]; done)), H', ⟨by have := HK1.out; omega⟩, ⟨by (with_reducible repeat (first | apply Kd.Zz | apply Kd.Zy | apply Kd.Ye)); exact Kd.Yp HO_0.out (fun _ hk => hk.2)⟩, ⟨by (with_reducible repeat (first | apply Kd.Zz | apply Kd.Zy | apply Kd.Ye)); exact Kd.Yp HO_1.out (fun _ hk => hk.2)⟩, ⟨by (with_reducible repeat (first | apply Kd.Zf | apply Kd.Ze | apply Kd.Zj)); exact HO_5.out⟩, ⟨by repeat (first | (with_reducible first | exact HB.out | apply Zb | apply Za | apply Zc) | exact HB.out)⟩⟩
         ·rw [if_neg c25] at H
          exact absurd H (by simp)
        ·rw [if_neg c23] at H
         exact absurd H (by simp)
       ·rw [if_neg c22] at H
        exact absurd H (by simp)
     ·rw [if_neg c12] at H
      have c12b0 : decide (x18_1 < (t851.length : Int)) = false := decide_eq_false c12
      clear c12
      replace H := Option.bind_eq_some_iff.mp H
      obtain ⟨t869, A300, H⟩ := H
      replace H : (some t869) = some r := H
      have A30 := Yt.mk A300
      clear A300
      obtain rfl := Option.some.inj H
      obtain ⟨Ao31, co31, eo31⟩ := Kd.Zx HO_5.out
      subst eo31
      go_wp2_with (first | ((with_reducible refine Zr (f := 108) rfl ?_); refine Yg (some 44) rfl rfl Try.func108 (by kernel_rfl) rfl #[.slice Ao31 x5_1.length co31] rfl (by (try simp only [List.map_toArray, List.map_cons, List.map_nil]); first | done | rfl | (simp only [List.length_drop, List.length_take]; rfl)) ?_; (with_reducible refine (nats_cuto.calls k1 (fun k_ => some k_ = (.slice Ao31 x5_1.length co31 : Value).ownBlock) (.slice Ao31 x5_1.length co31) x5_1 t869 w _ ?side1 ?side2 A30.out).mono ?_); (case side1 => repeat (first | (with_reducible first | exact HB.out | apply Zb | apply Za | apply Zc) | exact HB.out)); (case side2 => exact Kd.R_tight rfl HO_5.out); rintro e w32 ⟨v870, rfl, ho0, hb, hkp⟩; refine ⟨_, rfl, ?_⟩; have n0_ := Yt.mk (Kd.Yp (ok' := fun k_ => some k_ ≠ (v870 : Value).ownBlock) (Kd.V_keptB (HO_0.out) hkp (fun k_ hk_ hs_ => (hk_) hs_)) (fun k_ hk_ => fun e_ => Or.elim (ho0.1 k_ e_.symm) (fun hs_ => hk_.2.1 hs_) (fun hn_ => Nat.not_le.2 hk_.2.2 hn_))); have n1_ := Yt.mk (Kd.Yp (ok' := fun k_ => some k_ ≠ (v870 : Value).ownBlock) (Kd.V_keptB (HO_1.out) hkp (fun k_ hk_ hs_ => (hk_) hs_)) (fun k_ hk_ => fun e_ => Or.elim (ho0.1 k_ e_.symm) (fun hs_ => hk_.2.1 hs_) (fun hn_ => Nat.not_le.2 hk_.2.2 hn_))); have n2_ := Yt.mk (Kd.Zv (ok' := fun k_ => True) ho0 (fun k_ hk_ => trivial)); have n3_ := Yt.mk (hb); clear HO_0; clear HO_1; clear HB; clear HO_5; have HO_0 := n0_; have HO_1 := n1_; have HO871 := n2_; have HB := n3_; clear n0_ n1_ n2_ n3_; (try clear hb); (try clear hkp); (try clear ho0)))
      go_ret
      exact ⟨_, by first | rfl | (simp [Zp, Zo] <;> rfl) | (simp [*, Zp, Zo] <;> rfl), by (with_reducible repeat (first | apply Kd.Zf | apply Kd.Ze | apply Kd.Zj)); exact HO871.out, by repeat (first | (with_reducible first | exact HB.out | apply Zb | apply Za | apply Zc) | exact HB.out)⟩
  ·rw [if_neg c6] at H
   exact absurd H (by simp)
 ·rw [if_neg c5] at H
  exact absurd H (by simp)
def sibylref02_Copy.f (a0_0 : Bool) (l0_1 : List Int) (l0_2 : List Int) : Option (Bool × List Int × List Int) := (some (([] : List Int) : List Int)).bind fun y1222 => (if y1222.length + l0_1.length < 35184372088832 then ((some (([] : List Int) : List Int)).bind fun y1228 => (if y1228.length + l0_2.length < 35184372088832 then (some (a0_0, (y1222 ++ l0_1), (y1228 ++ l0_2))) else (none))) else (none))
def sibylref02_Copy.T1 : Bool × List (List Nat × List Nat) := (true, [([], []), ([0], [0]), ([], []), ([], []), ([3], [3]), ([2, 4], [2, 4]), ([], []), ([], []), ([7], [7]), ([6, 8, 5], [6, 8]), ([1, 5, 9], [1, 5, 9]), ([10, 9, 0, 1, 2, 3, 4, 5, 6, 7, 8, 9, 10], [10])])
def sibylref02_Copy.B1 : List Nat := [0, 1, 0, 0, 8, 28, 0, 0, 128, 508, 1023, 2047]
theorem sibylref02_Copy.tab1 : rtab .any (opsOf Try.f97 1) = sibylref02_Copy.T1 := by kernel_rfl
theorem sibylref02_Copy.bits1 : waitsOk sibylref02_Copy.T1.2 sibylref02_Copy.B1 = true := by kernel_rfl
set_option maxHeartbeats 8000000 in
set_option maxRecDepth 100000 in
theorem sibylref02_Copy.calls (a0_0 : Bool) (A0_1 : Option Addr) (c0_1 : Nat) (l0_1 : List Int) (A0_2 : Option Addr) (c0_2 : Nat) (l0_2 : List Int) (r1 : Bool) (r2 : List Int) (r3 : List Int) (w : World) (hr0_1 : Kd.C (Kd.int .u32) w A0_1 l0_1.length l0_1) (hc0_1 : l0_1.length ≤ c0_1) (hr0_2 : Kd.C (Kd.int .u32) w A0_2 l0_2.length l0_2) (hc0_2 : l0_2.length ≤ c0_2) (h : sibylref02_Copy.f a0_0 l0_1 l0_2 = some (r1, r2, r3)) :
  Calls Try.prog 97 #[.agg #[.bool a0_0, .slice A0_1 l0_1.length c0_1, .slice A0_2 l0_2.length c0_2]] w fun e w' => ∃ v1_ v2_ : Value, e = .returned (.agg #[.bool r1, v1_, v2_]) ∧ Kd.R (Kd.int .u32) 47 w' w.heap.size (fun k_ => some k_ ≠ (v2_ : Value).ownBlock) v1_ r2 ∧ Kd.R (Kd.int .u32) 47 w' w.heap.size (fun k_ => some k_ ≠ (v1_ : Value).ownBlock) v2_ r3 ∧ Below w.heap.size w w' := by
 have hu50 := Try.underlying50
 have HR0_1 := Yt.mk hr0_1
 have HC0_1 := Yt.mk hc0_1
 clear hr0_1 hc0_1
 have HR0_2 := Yt.mk hr0_2
 have HC0_2 := Yt.mk hc0_2
 clear hr0_2 hc0_2
 have HB := Yt.mk (Below.refl w.heap.size w)
 have H : ((some (([] : List Int) : List Int)).bind fun y1222 => (if y1222.length + l0_1.length < 35184372088832 then ((some (([] : List Int) : List Int)).bind fun y1228 => (if y1228.length + l0_2.length < 35184372088832 then (some (a0_0, (y1222 ++ l0_1), (y1228 ++ l0_2))) else (none))) else (none))) = some (r1, r2, r3) := h
 clear h
 obtain ⟨y1222, hy1222⟩ : ∃ y_ : List Int, y_ = (([] : List Int)) := ⟨_, rfl⟩
 replace H : (if y1222.length + l0_1.length < 35184372088832 then ((some (([] : List Int) : List Int)).bind fun y1228 => (if y1228.length + l0_2.length < 35184372088832 then (some (a0_0, (y1222 ++ l0_1), (y1228 ++ l0_2))) else (none))) else (none)) = some (r1, r2, r3) := by first | (rw [hy1222]; with_reducible exact H) | (have H2_ := (Option.bind_some _ _).symm.trans H; rw [hy1222]; with_reducible exact H2_) | (have H2_ := (Option.bind_some _ _).symm.trans H; with_reducible exact H2_) | with_reducible exact H | (rw [hy1222]; exact H) | exact H
 have Ny1222 := Yt.mk hy1222
 clear hy1222
 by_cases c2 : y1222.length + l0_1.length < 35184372088832
 ·rw [if_pos c2] at H
  have LMc2 := Yt.mk c2
  clear c2
  obtain ⟨y1225, hy1225⟩ : ∃ y_ : List Int, y_ = (y1222 ++ l0_1) := ⟨_, rfl⟩
  replace H : ((some (([] : List Int) : List Int)).bind fun y1228 => (if y1228.length + l0_2.length < 35184372088832 then (some (a0_0, y1225, (y1228 ++ l0_2))) else (none))) = some (r1, r2, r3) := by first | (rw [hy1225]; with_reducible exact H) | (have H2_ := (Option.bind_some _ _).symm.trans H; rw [hy1225]; with_reducible exact H2_) | (have H2_ := (Option.bind_some _ _).symm.trans H; with_reducible exact H2_) | with_reducible exact H | (rw [hy1225]; exact H) | exact H
  have Ny1225 := Yt.mk hy1225
  clear hy1225
  obtain ⟨y1228, hy1228⟩ : ∃ y_ : List Int, y_ = (([] : List Int)) := ⟨_, rfl⟩
  replace H : (if y1228.length + l0_2.length < 35184372088832 then (some (a0_0, y1225, (y1228 ++ l0_2))) else (none)) = some (r1, r2, r3) := by first | (rw [hy1228]; with_reducible exact H) | (have H2_ := (Option.bind_some _ _).symm.trans H; rw [hy1228]; with_reducible exact H2_) | (have H2_ := (Option.bind_some _ _).symm.trans H; with_reducible exact H2_) | with_reducible exact H | (rw [hy1228]; exact H) | exact H
  have Ny1228 := Yt.mk hy1228
  clear hy1228
  by_cases c3 : y1228.length + l0_2.length < 35184372088832
  ·rw [if_pos c3] at H
   have LMc3 := Yt.mk c3
   clear c3
   obtain ⟨y1231, hy1231⟩ : ∃ y_ : List Int, y_ = (y1228 ++ l0_2) := ⟨_, rfl⟩
   replace H : (some (a0_0, y1225, y1231)) = some (r1, r2, r3) := by first | (rw [hy1231]; with_reducible exact H) | (have H2_ := (Option.bind_some _ _).symm.trans H; rw [hy1231]; with_reducible exact H2_) | (have H2_ := (Option.bind_some _ _).symm.trans H; with_reducible exact H2_) | with_reducible exact H | (rw [hy1231]; exact H) | exact H
   have Ny1231 := Yt.mk hy1231
   clear hy1231
   simp only [Option.some.injEq, Prod.mk.injEq] at H
   obtain ⟨rfl, rfl, rfl⟩ := H
   go_enter Try.func97, Try.ntmps97
   try go_wp2_with (first | ((with_reducible refine Yk (N := 1) rfl ?_); refine Yo ?hg (N := 1) ?hd (cs := #[.bool a0_0, .slice A0_1 l0_1.length c0_1, .slice A0_2 l0_2.length c0_2]) (t := 50) ?hr ?_; (case hd => rfl); (case hg => rfl); (case hr => first | (go_simp; done) | (go_simp; rfl)); intro gb1220 hg w4 hbox hb; have n0_ := Yt.mk (Zm (by repeat (first | (with_reducible first | exact HB.out | apply Zb | apply Za | apply Zc) | exact HB.out)) hb); have n1_ := Yt.mk (hbox); have n2_ := Yt.mk ((by rw [hg]; exact (Zk (by repeat (first | (with_reducible first | exact HB.out | apply Zb | apply Za | apply Zc) | exact HB.out))) : w.heap.size ≤ gb1220)); have n3_ := Yt.mk ((by rw [hg]; exact (Zk (by repeat (first | (with_reducible first | exact HB.out | apply Zb | apply Za | apply Zc) | exact HB.out))) : w.heap.size ≤ gb1220)); clear HB; have HB := n0_; have BK1220 := n1_; have GW1220 := n2_; have GE1220 := n3_; clear n0_ n1_ n2_ n3_; clear hb hbox hg) | ((with_reducible refine Yk (N := 2) rfl ?_); refine Yo ?hg (N := 2) ?hd (cs := #[.bool false, .slice none 0 0, .slice none 0 0]) (t := 50) ?hr ?_; (case hd => rfl); (case hg => rfl); (case hr => first | (go_simp; done) | (go_simp; rfl)); intro gb1221 hg w5 hbox hb; have n0_ := Yt.mk (Zq (g := gb1220) (o := .cells #[.bool a0_0, .slice A0_1 l0_1.length c0_1, .slice A0_2 l0_2.length c0_2] 50 (0, 0)) (by (with_reducible repeat (first | refine Zg ?_ _ | refine Zi ?_ | refine Zh ?_ _)); exact BK1220.out) hb); have n1_ := Yt.mk (Zm (by repeat (first | (with_reducible first | exact HB.out | apply Zb | apply Za | apply Zc | refine Zd ?_ GE1220.out) | exact HB.out)) hb); have n2_ := Yt.mk (hbox); have n3_ := Yt.mk ((by rw [hg]; exact (Zk (by repeat (first | (with_reducible first | exact HB.out | apply Zb | apply Za | apply Zc | refine Zd ?_ GE1220.out) | exact HB.out))) : w.heap.size ≤ gb1221)); have n4_ := Yt.mk ((by rw [hg]; exact (Zk (by repeat (first | (with_reducible first | exact HB.out | apply Zb | apply Za | apply Zc | refine Zd ?_ GE1220.out) | exact HB.out))) : w.heap.size ≤ gb1221)); have n5_ := Yt.mk ((by rw [hg]; exact Nat.ne_of_lt (blk_lt (g := gb1220) (o := .cells #[.bool a0_0, .slice A0_1 l0_1.length c0_1, .slice A0_2 l0_2.length c0_2] 50 (0, 0)) (by (with_reducible repeat (first | refine Zg ?_ _ | refine Zi ?_ | refine Zh ?_ _)); exact BK1220.out)) : gb1220 ≠ gb1221)); have n6_ := Yt.mk ((by rw [hg]; exact Nat.ne_of_gt (blk_lt (g := gb1220) (o := .cells #[.bool a0_0, .slice A0_1 l0_1.length c0_1, .slice A0_2 l0_2.length c0_2] 50 (0, 0)) (by (with_reducible repeat (first | refine Zg ?_ _ | refine Zi ?_ | refine Zh ?_ _)); exact BK1220.out)) : gb1221 ≠ gb1220)); clear BK1220; clear HB; have BK1220 := n0_; have HB := n1_; have BK1221 := n2_; have GW1221 := n3_; have GE1221 := n4_; have NB1220_1221 := n5_; have NB1221_1220 := n6_; clear n0_ n1_ n2_ n3_ n4_ n5_ n6_; clear hb hbox hg))
   have n0_ := Yt.mk (Zi BK1220.out)
   have n1_ := Yt.mk (Zi BK1221.out)
   have n2_ := Yt.mk (Zc HB.out)
   clear BK1220
   clear BK1221
   clear HB
   have BK1220 := n0_
   have BK1221 := n1_
   have HB := n2_
   clear n0_ n1_ n2_
   refine start_ (n := 12) (S := fun w' => w'.cell? ⟨gb1220, 0, none⟩ = some (.bool a0_0) ∧ w'.cell? ⟨gb1220, 1, none⟩ = some (.slice A0_1 l0_1.length c0_1) ∧ w'.cell? ⟨gb1220, 2, none⟩ = some (.slice A0_2 l0_2.length c0_2)) (ds := []) #[false, false, false, false, false, false, false, false, false, false, false, false] (by kernel_rfl) rfl rfl ⟨(Zl BK1220.out 0).trans rfl, (Zl BK1220.out 1).trans rfl, (Zl BK1220.out 2).trans rfl⟩ (fun hHeld => ?_); refine with_tabW sibylref02_Copy.tab1 sibylref02_Copy.bits1 (fun HT_ HW_ => ?_)
   generalize w5.drew = w6 at BK1220 BK1221 HB hHeld ⊢
   refine pure_ (i := 0) (N := some 3) (v := ?_) (a' := ?_) #[true, false, false, false, false, false, false, false, false, false, false, false] rfl rfl (any_of HT_.out (by kernel_rfl)) (fun _ _ _ h => h) (Or.inl ⟨by rfl, ?_⟩) ?_ ?_
   rotate_left
   ·intro w'
    go_simp
    with_reducible rfl
   rotate_left
   ·simp only [Act.put, List.setIfInBounds_toArray, List.set_cons_zero, List.set_cons_succ, Yi, Yj]
    rfl
   refine pure_ (i := 3) (N := some 6) (v := ?_) (a' := ?_) #[true, false, false, true, false, false, false, false, false, false, false, false] rfl rfl (any_of HT_.out (by kernel_rfl)) (fun _ _ _ h => h) (Or.inl ⟨by rfl, ?_⟩) ?_ ?_
   rotate_left
   ·intro w'
    go_simp
    with_reducible rfl
   rotate_left
   ·simp only [Act.put, List.setIfInBounds_toArray, List.set_cons_zero, List.set_cons_succ, Yi, Yj]
    rfl
   refine pure_ (i := 7) (N := some 10) (v := ?_) (a' := ?_) #[true, false, false, true, false, false, false, true, false, false, false, false] rfl rfl (any_of HT_.out (by kernel_rfl)) (fun _ _ _ h => h) (Or.inl ⟨by rfl, ?_⟩) ?_ ?_
   rotate_left
   ·intro w'
    go_simp
    with_reducible rfl
   rotate_left
   ·simp only [Act.put, List.setIfInBounds_toArray, List.set_cons_zero, List.set_cons_succ, Yi, Yj]
    rfl
   refine take_ (i := 1) (N := some 4) (v := ?_) (a' := ?_) #[true, true, false, true, false, false, false, true, false, false, false, false] rfl rfl (take_ofW HT_.out HW_.out (by kernel_rfl)) (fun _ _ _ h => h) (Or.inl ⟨by rfl, ?_⟩) hHeld ?_ ?_
   rotate_left
   ·rintro w' ⟨s0, s1, s2⟩
    go_simp
    with_reducible rfl
   rotate_left
   ·simp only [Act.put, List.setIfInBounds_toArray, List.set_cons_zero, List.set_cons_succ, Yi, Yj]
    rfl
   refine take_ (i := 4) (N := some 7) (v := ?_) (a' := ?_) #[true, true, false, true, true, false, false, true, false, false, false, false] rfl rfl (take_ofW HT_.out HW_.out (by kernel_rfl)) (fun _ _ _ h => h) (Or.inl ⟨by rfl, ?_⟩) hHeld ?_ ?_
   rotate_left
   ·rintro w' ⟨s0, s1, s2⟩
    go_simp
    with_reducible rfl
   rotate_left
   ·simp only [Act.put, List.setIfInBounds_toArray, List.set_cons_zero, List.set_cons_succ, Yi, Yj]
    rfl
   refine take_ (i := 8) (N := some 11) (v := ?_) (a' := ?_) #[true, true, false, true, true, false, false, true, true, false, false, false] rfl rfl (take_ofW HT_.out HW_.out (by kernel_rfl)) (fun _ _ _ h => h) (Or.inl ⟨by rfl, ?_⟩) hHeld ?_ ?_
   rotate_left
   ·rintro w' ⟨s0, s1, s2⟩
    go_simp
    with_reducible rfl
   rotate_left
   ·simp only [Act.put, List.setIfInBounds_toArray, List.set_cons_zero, List.set_cons_succ, Yi, Yj]
    rfl
   refine join_ (σ := Value × Value × Value) 3 #[true, true, true, true, true, true, true, true, true, false, false, false] (fun s_ => [(5, s_.1), (8, s_.2.1), (9, s_.2.2)]) (fun s_ w' => (w'.cell? ⟨gb1220, 0, none⟩ = some (.bool a0_0) ∧ w'.cell? ⟨gb1220, 1, none⟩ = some (.slice A0_1 l0_1.length c0_1) ∧ w'.cell? ⟨gb1220, 2, none⟩ = some (.slice A0_2 l0_2.length c0_2)) ∧ (Kd.R (Kd.int .u32) 47 w' w.heap.size (fun k_ => some k_ ≠ (s_.2.2 : Value).ownBlock) s_.2.1 y1225) ∧ (Kd.R (Kd.int .u32) 47 w' w.heap.size (fun k_ => some k_ ≠ (s_.2.1 : Value).ownBlock) s_.2.2 y1228) ∧ (w'.heap[gb1220]? = some (.cells #[.bool a0_0, .slice A0_1 l0_1.length c0_1, .slice A0_2 l0_2.length c0_2] 50 (0, 0))) ∧ (w'.heap[gb1221]? = some (.cells #[.bool false, .slice none 0 0, .slice none 0 0] 50 (0, 0))) ∧ (Below w.heap.size w w')) ?_ ?_
   rotate_left
   ·intro hCont
    refine two_ (i := 2) (j := 6) (Ni := some 5) (Nj := some 9) #[true, true, true, true, true, false, false, true, true, false, false, false] #[true, true, false, true, true, false, true, true, true, false, false, false] rfl rfl rfl rfl (two_of HT_.out (by kernel_rfl)) (by decide) (by decide) (fun K hK => ?_) (fun K hK => ?_)
    ·skip
     refine Kd.R_lit_step (Kd.int .u32) _ 47 ?hg (N := 5) ?hd (xs := ([] : List Int)) (inner := []) (ok := fun _ => True) (okp := fun _ => True) ?hr ?hp (fun _ hk => hk) trivial (Below.refl _ _) (Nat.le_refl _) (by simp) ?_; (case hd => rfl); (case hg => rfl); (case hr => first | (go_simp; done) | (go_simp; rfl)); (case hp => exact (Reps.none _ _))
     intro v1223 w7 ho8 hb hg_ hnew_
     clear hg_ hnew_
     (first | rw [← Ny1222.out] at ho8 | (simp only [Int.reduceToNat] at ho8; rw [← Ny1222.out] at ho8))
     have n0_ := Yt.mk (Kd.Yb ho8 (Zk (by repeat (first | (with_reducible first | exact HB.out | apply Zb | apply Za | apply Zc | refine Zd ?_ GE1220.out | refine Zd ?_ GE1221.out) | exact HB.out))))
     have n1_ := Yt.mk (Zq (g := gb1220) (o := .cells #[.bool a0_0, .slice A0_1 l0_1.length c0_1, .slice A0_2 l0_2.length c0_2] 50 (0, 0)) (by (with_reducible repeat (first | refine Zg ?_ _ | refine Zi ?_ | refine Zh ?_ _)); exact BK1220.out) hb)
     have n2_ := Yt.mk (Zq (g := gb1221) (o := .cells #[.bool false, .slice none 0 0, .slice none 0 0] 50 (0, 0)) (by (with_reducible repeat (first | refine Zg ?_ _ | refine Zi ?_ | refine Zh ?_ _)); exact BK1221.out) hb)
     have n3_ := Yt.mk (Zm (by repeat (first | (with_reducible first | exact HB.out | apply Zb | apply Za | apply Zc | refine Zd ?_ GE1220.out | refine Zd ?_ GE1221.out) | exact HB.out)) hb)
     clear BK1220
     clear BK1221
     clear HB
     have HO1224 := n0_
     have BK1220 := n1_
     have BK1221 := n2_
     have HB := n3_
     clear n0_ n1_ n2_ n3_
     clear hb ho8
     refine hK.out _ _ ⟨(Zl BK1220.out 0).trans rfl, (Zl BK1220.out 1).trans rfl, (Zl BK1220.out 2).trans rfl⟩ (fun hHeld => ?_)
     clear hK K
     refine norm_ (a' := ?_) ?_ ?_
     rotate_left
     ·show Act.put _ (some 5) _ = _
      simp only [Act.put, List.setIfInBounds_toArray, List.set_cons_zero, List.set_cons_succ, Yi, Yj]
      rfl
     refine two_ (i := 5) (j := 6) (Ni := some 8) (Nj := some 9) #[true, true, true, true, true, true, false, true, true, false, false, false] #[true, true, true, true, true, false, true, true, true, false, false, false] rfl rfl rfl rfl (two_of HT_.out (by kernel_rfl)) (by decide) (by decide) (fun K hK => ?_) (fun K hK => ?_)
     ·skip
      refine Kd.R_append_rows_step (Kd.int .u32) (w0 := w) w.heap.size (by rfl) (.tmp 5) (.tmp 7) 22 47 (.int .u32 0) 4 rfl Try.underlying22 info47 rfl (by decide) (by omega) v1223 y1222 l0_1 _ _ _ (fun _ => True) (fun _ => False) rfl rfl ?aO ?aR (fun _ _ h => h) (fun _ h => h.elim) ?aF ?aB ?aS ?aL ?_
      (case aR => repeat (first | exact (Kd.Ys HR0_1.out HB.out) | (with_reducible refine Kd.Zu ?_ _) | (with_reducible refine Kd.Zt ?_ _) | (with_reducible refine Kd.Yc ?_)))
      (case aB => exact (by repeat (first | (with_reducible first | exact HB.out | apply Zb | apply Za | apply Zc | refine Zd ?_ GE1220.out | refine Zd ?_ GE1221.out) | exact HB.out)))
      (case aF => exact (fun _ _ => trivial))
      (case aO => exact (by (with_reducible repeat (first | apply Kd.Zf | apply Kd.Ze | apply Kd.Zj)); exact HO1224.out))
      (case aS => exact (Zk (by repeat (first | (with_reducible first | exact HB.out | apply Zb | apply Za | apply Zc | refine Zd ?_ GE1220.out | refine Zd ?_ GE1221.out) | exact HB.out))))
      (case aL => have := LMc2.out; omega)
      intro v1226 w9 ho hb hg hat
      rw [← Ny1225.out] at ho
      have n0_ := Yt.mk (blk_grown (g := gb1220) (o := .cells #[.bool a0_0, .slice A0_1 l0_1.length c0_1, .slice A0_2 l0_2.length c0_2] 50 (0, 0)) (by (with_reducible repeat (first | refine Zg ?_ _ | refine Zi ?_ | refine Zh ?_ _)); exact BK1220.out) hg (Kd.R_ne HO1224.out BK1220.out (by decide)))
      have n1_ := Yt.mk (blk_grown (g := gb1221) (o := .cells #[.bool false, .slice none 0 0, .slice none 0 0] 50 (0, 0)) (by (with_reducible repeat (first | refine Zg ?_ _ | refine Zi ?_ | refine Zh ?_ _)); exact BK1221.out) hg (Kd.R_ne HO1224.out BK1221.out (by decide)))
      have n2_ := Yt.mk (hb)
      have n3_ := Yt.mk (ho)
      clear BK1220
      clear BK1221
      clear HB
      clear HO1224
      have BK1220 := n0_
      have BK1221 := n1_
      have HB := n2_
      have HO1227 := n3_
      clear n0_ n1_ n2_ n3_
      clear ho hb hg hat
      refine hK.out _ _ ⟨(Zl BK1220.out 0).trans rfl, (Zl BK1220.out 1).trans rfl, (Zl BK1220.out 2).trans rfl⟩ (fun hHeld => ?_)
      clear hK K
      refine norm_ (a' := ?_) ?_ ?_
      rotate_left
      ·show Act.put _ (some 8) _ = _
       simp only [Act.put, List.setIfInBounds_toArray, List.set_cons_zero, List.set_cons_succ, Yi, Yj]
       rfl
      refine one_ (i := 6) (N := some 9) #[true, true, true, true, true, true, true, true, true, false, false, false] rfl rfl (one_of HT_.out (by kernel_rfl)) (by decide) (fun K hK => ?_)
      refine Kd.R_lit_step (Kd.int .u32) _ 47 ?hg (N := 9) ?hd (xs := ([] : List Int)) (inner := []) (ok := fun _ => True) (okp := fun _ => True) ?hr ?hp (fun _ hk => hk) trivial (Below.refl _ _) (Nat.le_refl _) (by simp) ?_; (case hd => rfl); (case hg => rfl); (case hr => first | (go_simp; done) | (go_simp; rfl)); (case hp => exact (Reps.none _ _))
      intro v1229 w10 ho11 hb hg_ hnew_
      clear hg_ hnew_
      (first | rw [← Ny1228.out] at ho11 | (simp only [Int.reduceToNat] at ho11; rw [← Ny1228.out] at ho11))
      have n0_ := Yt.mk (Kd.Yf (by (with_reducible repeat (first | apply Kd.Zf | apply Kd.Ze | apply Kd.Zj)); exact HO1227.out) (Kd.Zw ho11) hb)
      have n1_ := Yt.mk (Kd.Yb (Kd.Ya ho11 (Kd.R_lt (by (with_reducible repeat (first | apply Kd.Zf | apply Kd.Ze | apply Kd.Zj)); exact HO1227.out))) (Zk (by repeat (first | (with_reducible first | exact HB.out | apply Zb | apply Za | apply Zc | refine Zd ?_ GE1220.out | refine Zd ?_ GE1221.out) | exact HB.out))))
      have n2_ := Yt.mk (Zq (g := gb1220) (o := .cells #[.bool a0_0, .slice A0_1 l0_1.length c0_1, .slice A0_2 l0_2.length c0_2] 50 (0, 0)) (by (with_reducible repeat (first | refine Zg ?_ _ | refine Zi ?_ | refine Zh ?_ _)); exact BK1220.out) hb)
      have n3_ := Yt.mk (Zq (g := gb1221) (o := .cells #[.bool false, .slice none 0 0, .slice none 0 0] 50 (0, 0)) (by (with_reducible repeat (first | refine Zg ?_ _ | refine Zi ?_ | refine Zh ?_ _)); exact BK1221.out) hb)
      have n4_ := Yt.mk (Zm (by repeat (first | (with_reducible first | exact HB.out | apply Zb | apply Za | apply Zc | refine Zd ?_ GE1220.out | refine Zd ?_ GE1221.out) | exact HB.out)) hb)
      clear HO1227
      clear BK1220
      clear BK1221
      clear HB
      have HO1227 := n0_
      have HO1230 := n1_
      have BK1220 := n2_
      have BK1221 := n3_
      have HB := n4_
      clear n0_ n1_ n2_ n3_ n4_
      clear hb ho11
      refine hK.out _ _ ⟨(Zl BK1220.out 0).trans rfl, (Zl BK1220.out 1).trans rfl, (Zl BK1220.out 2).trans rfl⟩ (fun hHeld => ?_)
      clear hK K
      refine norm_ (a' := ?_) ?_ ?_
      rotate_left
      ·show Act.put _ (some 9) _ = _
       simp only [Act.put, List.setIfInBounds_toArray, List.set_cons_zero, List.set_cons_succ, Yi, Yj]
       rfl
      exact norm_ (by simp only [putAll, Act.put, List.setIfInBounds_toArray, List.set_cons_zero, List.set_cons_succ]) (hCont (v1223, v1226, v1229) _ ⟨hHeld, (by (with_reducible repeat (first | apply Kd.Zf | apply Kd.Ze | apply Kd.Zj)); exact Kd.Zv HO1227.out (fun _ hk => hk.2)), (by (with_reducible repeat (first | apply Kd.Zf | apply Kd.Ze | apply Kd.Zj)); exact Kd.Zv HO1230.out (fun _ hk => hk.2)), (by (with_reducible repeat (first | refine Zg ?_ _ | refine Zi ?_ | refine Zh ?_ _)); exact BK1220.out), (by (with_reducible repeat (first | refine Zg ?_ _ | refine Zi ?_ | refine Zh ?_ _)); exact BK1221.out), (by repeat (first | (with_reducible first | exact HB.out | apply Zb | apply Za | apply Zc | refine Zd ?_ GE1220.out | refine Zd ?_ GE1221.out) | exact HB.out))⟩)
     ·skip
      refine Kd.R_lit_step (Kd.int .u32) _ 47 ?hg (N := 9) ?hd (xs := ([] : List Int)) (inner := []) (ok := fun _ => True) (okp := fun _ => True) ?hr ?hp (fun _ hk => hk) trivial (Below.refl _ _) (Nat.le_refl _) (by simp) ?_; (case hd => rfl); (case hg => rfl); (case hr => first | (go_simp; done) | (go_simp; rfl)); (case hp => exact (Reps.none _ _))
      intro v1229 w9 ho10 hb hg_ hnew_
      clear hg_ hnew_
      (first | rw [← Ny1228.out] at ho10 | (simp only [Int.reduceToNat] at ho10; rw [← Ny1228.out] at ho10))
      have n0_ := Yt.mk (Kd.Yf (by (with_reducible repeat (first | apply Kd.Zf | apply Kd.Ze | apply Kd.Zj)); exact HO1224.out) (Kd.Zw ho10) hb)
      have n1_ := Yt.mk (Kd.Yb (Kd.Ya ho10 (Kd.R_lt (by (with_reducible repeat (first | apply Kd.Zf | apply Kd.Ze | apply Kd.Zj)); exact HO1224.out))) (Zk (by repeat (first | (with_reducible first | exact HB.out | apply Zb | apply Za | apply Zc | refine Zd ?_ GE1220.out | refine Zd ?_ GE1221.out) | exact HB.out))))
      have n2_ := Yt.mk (Zq (g := gb1220) (o := .cells #[.bool a0_0, .slice A0_1 l0_1.length c0_1, .slice A0_2 l0_2.length c0_2] 50 (0, 0)) (by (with_reducible repeat (first | refine Zg ?_ _ | refine Zi ?_ | refine Zh ?_ _)); exact BK1220.out) hb)
      have n3_ := Yt.mk (Zq (g := gb1221) (o := .cells #[.bool false, .slice none 0 0, .slice none 0 0] 50 (0, 0)) (by (with_reducible repeat (first | refine Zg ?_ _ | refine Zi ?_ | refine Zh ?_ _)); exact BK1221.out) hb)
      have n4_ := Yt.mk (Zm (by repeat (first | (with_reducible first | exact HB.out | apply Zb | apply Za | apply Zc | refine Zd ?_ GE1220.out | refine Zd ?_ GE1221.out) | exact HB.out)) hb)
      clear HO1224
      clear BK1220
      clear BK1221
      clear HB
      have HO1224 := n0_
      have HO1230 := n1_
      have BK1220 := n2_
      have BK1221 := n3_
      have HB := n4_
      clear n0_ n1_ n2_ n3_ n4_
      clear hb ho10
      refine hK.out _ _ ⟨(Zl BK1220.out 0).trans rfl, (Zl BK1220.out 1).trans rfl, (Zl BK1220.out 2).trans rfl⟩ (fun hHeld => ?_)
      clear hK K
      refine norm_ (a' := ?_) ?_ ?_
      rotate_left
      ·show Act.put _ (some 9) _ = _
       simp only [Act.put, List.setIfInBounds_toArray, List.set_cons_zero, List.set_cons_succ, Yi, Yj]
       rfl
      refine one_ (i := 5) (N := some 8) #[true, true, true, true, true, true, true, true, true, false, false, false] rfl rfl (one_of HT_.out (by kernel_rfl)) (by decide) (fun K hK => ?_)
      refine Kd.R_append_rows_step (Kd.int .u32) (w0 := w) w.heap.size (by rfl) (.tmp 5) (.tmp 7) 22 47 (.int .u32 0) 4 rfl Try.underlying22 info47 rfl (by decide) (by omega) v1223 y1222 l0_1 _ _ _ (fun k_ => some k_ ≠ (v1229 : Value).ownBlock) (fun _ => False) rfl rfl ?aO ?aR (fun _ _ h => h) (fun _ h => h.elim) ?aF ?aB ?aS ?aL ?_
      (case aR => repeat (first | exact (Kd.Ys HR0_1.out HB.out) | (with_reducible refine Kd.Zu ?_ _) | (with_reducible refine Kd.Zt ?_ _) | (with_reducible refine Kd.Yc ?_)))
      (case aB => exact (by repeat (first | (with_reducible first | exact HB.out | apply Zb | apply Za | apply Zc | refine Zd ?_ GE1220.out | refine Zd ?_ GE1221.out) | exact HB.out)))
      (case aF => exact (fun k_ hk => Kd.fresh' (Kd.R_lt (by (with_reducible repeat (first | apply Kd.Zf | apply Kd.Ze | apply Kd.Zj)); exact HO1230.out)) k_ hk))
      (case aO => exact (by (with_reducible repeat (first | apply Kd.Zf | apply Kd.Ze | apply Kd.Zj)); exact Kd.Zv HO1224.out (fun _ hk => hk.2)))
      (case aS => exact (Zk (by repeat (first | (with_reducible first | exact HB.out | apply Zb | apply Za | apply Zc | refine Zd ?_ GE1220.out | refine Zd ?_ GE1221.out) | exact HB.out))))
      (case aL => have := LMc2.out; omega)
      intro v1226 w11 ho hb hg hat
      rw [← Ny1225.out] at ho
      have n0_ := Yt.mk (blk_grown (g := gb1220) (o := .cells #[.bool a0_0, .slice A0_1 l0_1.length c0_1, .slice A0_2 l0_2.length c0_2] 50 (0, 0)) (by (with_reducible repeat (first | refine Zg ?_ _ | refine Zi ?_ | refine Zh ?_ _)); exact BK1220.out) hg (Kd.R_ne HO1224.out BK1220.out (by decide)))
      have n1_ := Yt.mk (blk_grown (g := gb1221) (o := .cells #[.bool false, .slice none 0 0, .slice none 0 0] 50 (0, 0)) (by (with_reducible repeat (first | refine Zg ?_ _ | refine Zi ?_ | refine Zh ?_ _)); exact BK1221.out) hg (Kd.R_ne HO1224.out BK1221.out (by decide)))
      have n2_ := Yt.mk (Kd.R_after (ok := (fun _ => True)) (by (with_reducible repeat (first | apply Kd.Zf | apply Kd.Ze | apply Kd.Zj)); exact HO1230.out) hg hat)
      have n3_ := Yt.mk (hb)
      have n4_ := Yt.mk (ho)
      clear BK1220
      clear BK1221
      clear HO1230
      clear HB
      clear HO1224
      have BK1220 := n0_
      have BK1221 := n1_
      have HO1230 := n2_
      have HB := n3_
      have HO1227 := n4_
      clear n0_ n1_ n2_ n3_ n4_
      clear ho hb hg hat
      refine hK.out _ _ ⟨(Zl BK1220.out 0).trans rfl, (Zl BK1220.out 1).trans rfl, (Zl BK1220.out 2).trans rfl⟩ (fun hHeld => ?_)
      clear hK K
      refine norm_ (a' := ?_) ?_ ?_
      rotate_left
      ·show Act.put _ (some 8) _ = _
       simp only [Act.put, List.setIfInBounds_toArray, List.set_cons_zero, List.set_cons_succ, Yi, Yj]
       rfl
      exact norm_ (by simp only [putAll, Act.put, List.setIfInBounds_toArray, List.set_cons_zero, List.set_cons_succ]) (hCont (v1223, v1226, v1229) _ ⟨hHeld, (by (with_reducible repeat (first | apply Kd.Zf | apply Kd.Ze | apply Kd.Zj)); exact HO1227.out), (by (with_reducible repeat (first | apply Kd.Zf | apply Kd.Ze | apply Kd.Zj)); exact Kd.Zv HO1230.out (fun _ hk => hk.2)), (by (with_reducible repeat (first | refine Zg ?_ _ | refine Zi ?_ | refine Zh ?_ _)); exact BK1220.out), (by (with_reducible repeat (first | refine Zg ?_ _ | refine Zi ?_ | refine Zh ?_ _)); exact BK1221.out), (by repeat (first | (with_reducible first | exact HB.out | apply Zb | apply Za | apply Zc | refine Zd ?_ GE1220.out | refine Zd ?_ GE1221.out) | exact HB.out))⟩)
    ·skip
     refine Kd.R_lit_step (Kd.int .u32) _ 47 ?hg (N := 9) ?hd (xs := ([] : List Int)) (inner := []) (ok := fun _ => True) (okp := fun _ => True) ?hr ?hp (fun _ hk => hk) trivial (Below.refl _ _) (Nat.le_refl _) (by simp) ?_; (case hd => rfl); (case hg => rfl); (case hr => first | (go_simp; done) | (go_simp; rfl)); (case hp => exact (Reps.none _ _))
     intro v1229 w7 ho8 hb hg_ hnew_
     clear hg_ hnew_
     (first | rw [← Ny1228.out] at ho8 | (simp only [Int.reduceToNat] at ho8; rw [← Ny1228.out] at ho8))
     have n0_ := Yt.mk (Kd.Yb ho8 (Zk (by repeat (first | (with_reducible first | exact HB.out | apply Zb | apply Za | apply Zc | refine Zd ?_ GE1220.out | refine Zd ?_ GE1221.out) | exact HB.out))))
     have n1_ := Yt.mk (Zq (g := gb1220) (o := .cells #[.bool a0_0, .slice A0_1 l0_1.length c0_1, .slice A0_2 l0_2.length c0_2] 50 (0, 0)) (by (with_reducible repeat (first | refine Zg ?_ _ | refine Zi ?_ | refine Zh ?_ _)); exact BK1220.out) hb)
     have n2_ := Yt.mk (Zq (g := gb1221) (o := .cells #[.bool false, .slice none 0 0, .slice none 0 0] 50 (0, 0)) (by (with_reducible repeat (first | refine Zg ?_ _ | refine Zi ?_ | refine Zh ?_ _)); exact BK1221.out) hb)
     have n3_ := Yt.mk (Zm (by repeat (first | (with_reducible first | exact HB.out | apply Zb | apply Za | apply Zc | refine Zd ?_ GE1220.out | refine Zd ?_ GE1221.out) | exact HB.out)) hb)
     clear BK1220
     clear BK1221
     clear HB
     have HO1230 := n0_
     have BK1220 := n1_
     have BK1221 := n2_
     have HB := n3_
     clear n0_ n1_ n2_ n3_
     clear hb ho8
     refine hK.out _ _ ⟨(Zl BK1220.out 0).trans rfl, (Zl BK1220.out 1).trans rfl, (Zl BK1220.out 2).trans rfl⟩ (fun hHeld => ?_)
     clear hK K
     refine norm_ (a' := ?_) ?_ ?_
     rotate_left
     ·show Act.put _ (some 9) _ = _
      simp only [Act.put, List.setIfInBounds_toArray, List.set_cons_zero, List.set_cons_succ, Yi, Yj]
      rfl
     refine one_ (i := 2) (N := some 5) #[true, true, true, true, true, false, true, true, true, false, false, false] rfl rfl (one_of HT_.out (by kernel_rfl)) (by decide) (fun K hK => ?_)
     refine Kd.R_lit_step (Kd.int .u32) _ 47 ?hg (N := 5) ?hd (xs := ([] : List Int)) (inner := []) (ok := fun _ => True) (okp := fun _ => True) ?hr ?hp (fun _ hk => hk) trivial (Below.refl _ _) (Nat.le_refl _) (by simp) ?_; (case hd => rfl); (case hg => rfl); (case hr => first | (go_simp; done) | (go_simp; rfl)); (case hp => exact (Reps.none _ _))
     intro v1223 w9 ho10 hb hg_ hnew_
     clear hg_ hnew_
     (first | rw [← Ny1222.out] at ho10 | (simp only [Int.reduceToNat] at ho10; rw [← Ny1222.out] at ho10))
     have n0_ := Yt.mk (Kd.Yf (by (with_reducible repeat (first | apply Kd.Zf | apply Kd.Ze | apply Kd.Zj)); exact HO1230.out) (Kd.Zw ho10) hb)
     have n1_ := Yt.mk (Kd.Yb (Kd.Ya ho10 (Kd.R_lt (by (with_reducible repeat (first | apply Kd.Zf | apply Kd.Ze | apply Kd.Zj)); exact HO1230.out))) (Zk (by repeat (first | (with_reducible first | exact HB.out | apply Zb | apply Za | apply Zc | refine Zd ?_ GE1220.out | refine Zd ?_ GE1221.out) | exact HB.out))))
     have n2_ := Yt.mk (Zq (g := gb1220) (o := .cells #[.bool a0_0, .slice A0_1 l0_1.length c0_1, .slice A0_2 l0_2.length c0_2] 50 (0, 0)) (by (with_reducible repeat (first | refine Zg ?_ _ | refine Zi ?_ | refine Zh ?_ _)); exact BK1220.out) hb)
     have n3_ := Yt.mk (Zq (g := gb1221) (o := .cells #[.bool false, .slice none 0 0, .slice none 0 0] 50 (0, 0)) (by (with_reducible repeat (first | refine Zg ?_ _ | refine Zi ?_ | refine Zh ?_ _)); exact BK1221.out) hb)
     have n4_ := Yt.mk (Zm (by repeat (first | (with_reducible first | exact HB.out | apply Zb | apply Za | apply Zc | refine Zd ?_ GE1220.out | refine Zd ?_ GE1221.out) | exact HB.out)) hb)
     clear HO1230
     clear BK1220
     clear BK1221
     clear HB
     have HO1230 := n0_
     have HO1224 := n1_
     have BK1220 := n2_
     have BK1221 := n3_
     have HB := n4_
     clear n0_ n1_ n2_ n3_ n4_
     clear hb ho10
     refine hK.out _ _ ⟨(Zl BK1220.out 0).trans rfl, (Zl BK1220.out 1).trans rfl, (Zl BK1220.out 2).trans rfl⟩ (fun hHeld => ?_)
     clear hK K
     refine norm_ (a' := ?_) ?_ ?_
     rotate_left
     ·show Act.put _ (some 5) _ = _
      simp only [Act.put, List.setIfInBounds_toArray, List.set_cons_zero, List.set_cons_succ, Yi, Yj]
      rfl
     refine one_ (i := 5) (N := some 8) #[true, true, true, true, true, true, true, true, true, false, false, false] rfl rfl (one_of HT_.out (by kernel_rfl)) (by decide) (fun K hK => ?_)
     refine Kd.R_append_rows_step (Kd.int .u32) (w0 := w) w.heap.size (by rfl) (.tmp 5) (.tmp 7) 22 47 (.int .u32 0) 4 rfl Try.underlying22 info47 rfl (by decide) (by omega) v1223 y1222 l0_1 _ _ _ (fun k_ => some k_ ≠ (v1229 : Value).ownBlock) (fun _ => False) rfl rfl ?aO ?aR (fun _ _ h => h) (fun _ h => h.elim) ?aF ?aB ?aS ?aL ?_
     (case aR => repeat (first | exact (Kd.Ys HR0_1.out HB.out) | (with_reducible refine Kd.Zu ?_ _) | (with_reducible refine Kd.Zt ?_ _) | (with_reducible refine Kd.Yc ?_)))
     (case aB => exact (by repeat (first | (with_reducible first | exact HB.out | apply Zb | apply Za | apply Zc | refine Zd ?_ GE1220.out | refine Zd ?_ GE1221.out) | exact HB.out)))
     (case aF => exact (fun k_ hk => Kd.fresh' (Kd.R_lt (by (with_reducible repeat (first | apply Kd.Zf | apply Kd.Ze | apply Kd.Zj)); exact HO1230.out)) k_ hk))
     (case aO => exact (by (with_reducible repeat (first | apply Kd.Zf | apply Kd.Ze | apply Kd.Zj)); exact Kd.Zv HO1224.out (fun _ hk => hk.2)))
     (case aS => exact (Zk (by repeat (first | (with_reducible first | exact HB.out | apply Zb | apply Za | apply Zc | refine Zd ?_ GE1220.out | refine Zd ?_ GE1221.out) | exact HB.out))))
     (case aL => have := LMc2.out; omega)
     intro v1226 w11 ho hb hg hat
     rw [← Ny1225.out] at ho
     have n0_ := Yt.mk (blk_grown (g := gb1220) (o := .cells #[.bool a0_0, .slice A0_1 l0_1.length c0_1, .slice A0_2 l0_2.length c0_2] 50 (0, 0)) (by (with_reducible repeat (first | refine Zg ?_ _ | refine Zi ?_ | refine Zh ?_ _)); exact BK1220.out) hg (Kd.R_ne HO1224.out BK1220.out (by decide)))
     have n1_ := Yt.mk (blk_grown (g := gb1221) (o := .cells #[.bool false, .slice none 0 0, .slice none 0 0] 50 (0, 0)) (by (with_reducible repeat (first | refine Zg ?_ _ | refine Zi ?_ | refine Zh ?_ _)); exact BK1221.out) hg (Kd.R_ne HO1224.out BK1221.out (by decide)))
     have n2_ := Yt.mk (Kd.R_after (ok := (fun _ => True)) (by (with_reducible repeat (first | apply Kd.Zf | apply Kd.Ze | apply Kd.Zj)); exact HO1230.out) hg hat)
     have n3_ := Yt.mk (hb)
     have n4_ := Yt.mk (ho)
     clear BK1220
     clear BK1221
     clear HO1230
     clear HB
     clear HO1224
     have BK1220 := n0_
     have BK1221 := n1_
     have HO1230 := n2_
     have HB := n3_
     have HO1227 := n4_
     clear n0_ n1_ n2_ n3_ n4_
     clear ho hb hg hat
     refine hK.out _ _ ⟨(Zl BK1220.out 0).trans rfl, (Zl BK1220.out 1).trans rfl, (Zl BK1220.out 2).trans rfl⟩ (fun hHeld => ?_)
     clear hK K
     refine norm_ (a' := ?_) ?_ ?_
     rotate_left
     ·show Act.put _ (some 8) _ = _
      simp only [Act.put, List.setIfInBounds_toArray, List.set_cons_zero, List.set_cons_succ, Yi, Yj]
      rfl
     exact norm_ (by simp only [putAll, Act.put, List.setIfInBounds_toArray, List.set_cons_zero, List.set_cons_succ]) (hCont (v1223, v1226, v1229) _ ⟨hHeld, (by (with_reducible repeat (first | apply Kd.Zf | apply Kd.Ze | apply Kd.Zj)); exact HO1227.out), (by (with_reducible repeat (first | apply Kd.Zf | apply Kd.Ze | apply Kd.Zj)); exact Kd.Zv HO1230.out (fun _ hk => hk.2)), (by (with_reducible repeat (first | refine Zg ?_ _ | refine Zi ?_ | refine Zh ?_ _)); exact BK1220.out), (by (with_reducible repeat (first | refine Zg ?_ _ | refine Zi ?_ | refine Zh ?_ _)); exact BK1221.out), (by repeat (first | (with_reducible first | exact HB.out | apply Zb | apply Za | apply Zc | refine Zd ?_ GE1220.out | refine Zd ?_ GE1221.out) | exact HB.out))⟩)
   rintro ⟨v1223, v1226, v1229⟩ w12 ⟨hS_, h0_, h1_, h2_, h3_, h4_⟩
   have n0_ : Yt (Kd.R (Kd.int .u32) 47 w12 w.heap.size (fun k_ => some k_ ≠ (v1229 : Value).ownBlock) v1226 y1225) := ⟨h0_⟩
   have n1_ : Yt (Kd.R (Kd.int .u32) 47 w12 w.heap.size (fun k_ => some k_ ≠ (v1226 : Value).ownBlock) v1229 y1228) := ⟨h1_⟩
   have n2_ : Yt (w12.heap[gb1220]? = some (.cells #[.bool a0_0, .slice A0_1 l0_1.length c0_1, .slice A0_2 l0_2.length c0_2] 50 (0, 0))) := ⟨h2_⟩
   have n3_ : Yt (w12.heap[gb1221]? = some (.cells #[.bool false, .slice none 0 0, .slice none 0 0] 50 (0, 0))) := ⟨h3_⟩
   have n4_ : Yt (Below w.heap.size w w12) := ⟨h4_⟩
   clear BK1220
   clear BK1221
   clear HB
   clear h0_ h1_ h2_ h3_ h4_
   have HO1227 := n0_
   have HO1230 := n1_
   have BK1220 := n2_
   have BK1221 := n3_
   have HB := n4_
   clear n0_ n1_ n2_ n3_ n4_
   have hHeld : w12.cell? ⟨gb1220, 0, none⟩ = some (.bool a0_0) ∧ w12.cell? ⟨gb1220, 1, none⟩ = some (.slice A0_1 l0_1.length c0_1) ∧ w12.cell? ⟨gb1220, 2, none⟩ = some (.slice A0_2 l0_2.length c0_2) := hS_
   refine norm_ (a' := ?_) ?_ ?_
   rotate_left
   ·simp only [putAll, Act.put, List.setIfInBounds_toArray, List.set_cons_zero, List.set_cons_succ]
    rfl
   refine one_ (i := 9) (N := some 12) #[true, true, true, true, true, true, true, true, true, true, false, false] rfl rfl (one_of HT_.out (by kernel_rfl)) (by decide) (fun K hK => ?_)
   refine Kd.R_append_rows_step (Kd.int .u32) (w0 := w) w.heap.size (by rfl) (.tmp 9) (.tmp 11) 22 47 (.int .u32 0) 4 rfl Try.underlying22 info47 rfl (by decide) (by omega) v1229 y1228 l0_2 _ _ _ (fun k_ => some k_ ≠ (v1226 : Value).ownBlock) (fun _ => False) rfl rfl ?aO ?aR (fun _ _ h => h) (fun _ h => h.elim) ?aF ?aB ?aS ?aL ?_
   (case aR => repeat (first | exact (Kd.Ys HR0_2.out HB.out) | (with_reducible refine Kd.Zu ?_ _) | (with_reducible refine Kd.Zt ?_ _) | (with_reducible refine Kd.Yc ?_)))
   (case aB => exact (by repeat (first | (with_reducible first | exact HB.out | apply Zb | apply Za | apply Zc | refine Zd ?_ GE1220.out | refine Zd ?_ GE1221.out) | exact HB.out)))
   (case aF => exact (fun k_ hk => Kd.fresh' (Kd.R_lt (by (with_reducible repeat (first | apply Kd.Zf | apply Kd.Ze | apply Kd.Zj)); exact HO1227.out)) k_ hk))
   (case aO => exact (by (with_reducible repeat (first | apply Kd.Zf | apply Kd.Ze | apply Kd.Zj)); exact HO1230.out))
   (case aS => exact (Zk (by repeat (first | (with_reducible first | exact HB.out | apply Zb | apply Za | apply Zc | refine Zd ?_ GE1220.out | refine Zd ?_ GE1221.out) | exact HB.out))))
   (case aL => have := LMc3.out; omega)
   intro v1232 w13 ho hb hg hat
   rw [← Ny1231.out] at ho
   have n0_ := Yt.mk (blk_grown (g := gb1220) (o := .cells #[.bool a0_0, .slice A0_1 l0_1.length c0_1, .slice A0_2 l0_2.length c0_2] 50 (0, 0)) (by (with_reducible repeat (first | refine Zg ?_ _ | refine Zi ?_ | refine Zh ?_ _)); exact BK1220.out) hg (Kd.R_ne HO1230.out BK1220.out (by decide)))
   have n1_ := Yt.mk (blk_grown (g := gb1221) (o := .cells #[.bool false, .slice none 0 0, .slice none 0 0] 50 (0, 0)) (by (with_reducible repeat (first | refine Zg ?_ _ | refine Zi ?_ | refine Zh ?_ _)); exact BK1221.out) hg (Kd.R_ne HO1230.out BK1221.out (by decide)))
   have n2_ := Yt.mk (Kd.R_after (ok := (fun _ => True)) (by (with_reducible repeat (first | apply Kd.Zf | apply Kd.Ze | apply Kd.Zj)); exact Kd.Zv HO1227.out (fun _ hk => ⟨trivial, hk⟩)) hg hat)
   have n3_ := Yt.mk (hb)
   have n4_ := Yt.mk (ho)
   clear BK1220
   clear BK1221
   clear HO1227
   clear HB
   clear HO1230
   have BK1220 := n0_
   have BK1221 := n1_
   have HO1227 := n2_
   have HB := n3_
   have HO1233 := n4_
   clear n0_ n1_ n2_ n3_ n4_
   clear ho hb hg hat
   obtain ⟨Ao14, co14, eo14⟩ := Kd.Zx HO1233.out
   (first | subst eo14 | (injection eo14 with f1_ f2_ f3_; have f4_ := f1_.symm; have f5_ := f3_.symm; clear f1_ f2_ f3_; subst f4_; subst f5_))
   obtain ⟨Ao15, co15, eo15⟩ := Kd.Zx HO1227.out
   (first | subst eo15 | (injection eo15 with f1_ f2_ f3_; have f4_ := f1_.symm; have f5_ := f3_.symm; clear f1_ f2_ f3_; subst f4_; subst f5_))
   refine hK.out _ _ ⟨(Zl BK1220.out 0).trans rfl, (Zl BK1220.out 1).trans rfl, (Zl BK1220.out 2).trans rfl⟩ (fun hHeld => ?_)
   clear hK K
   refine norm_ (a' := ?_) ?_ ?_
   rotate_left
   ·show Act.put _ (some 12) _ = _
    simp only [Act.put, List.setIfInBounds_toArray, List.set_cons_zero, List.set_cons_succ, Yi, Yj]
    rfl
   refine pure_ (i := 10) (N := some 13) (v := ?_) (a' := ?_) #[true, true, true, true, true, true, true, true, true, true, true, false] rfl rfl (any_of HT_.out (by kernel_rfl)) (fun _ _ _ h => h) (Or.inl ⟨by rfl, ?_⟩) ?_ ?_
   rotate_left
   ·intro w'
    go_simp
    with_reducible rfl
   rotate_left
   ·simp only [Act.put, List.setIfInBounds_toArray, List.set_cons_zero, List.set_cons_succ, Yi, Yj]
    rfl
   refine one_ (i := 11) (N := none) #[true, true, true, true, true, true, true, true, true, true, true, true] rfl rfl (one_of HT_.out (by kernel_rfl)) (by decide) (fun K hK => ?_)
   have hs16 : w13.cell? ⟨gb1221, 0, none⟩ = some (.bool false) := (Zl BK1221.out 0).trans rfl
   have hfs16 := Zn BK1221.out 0
   have hns16_0 := NB1220_1221.out
   have hms16_0 := NB1221_1220.out
   have hs17 : w13.cell? ⟨gb1221, 1, none⟩ = some (.slice none 0 0) := (Zl BK1221.out 1).trans rfl
   have hfs17 := Zn BK1221.out 1
   have hns17_0 := NB1220_1221.out
   have hms17_0 := NB1221_1220.out
   have hs18 : w13.cell? ⟨gb1221, 2, none⟩ = some (.slice none 0 0) := (Zl BK1221.out 2).trans rfl
   have hfs18 := Zn BK1221.out 2
   have hns18_0 := NB1220_1221.out
   have hms18_0 := NB1221_1220.out
   refine skip_ (w1 := ?_) (by rfl) rfl ?_ ?_
   rotate_left
   ·go_simp
    rfl
   refine hK.out _ _ ⟨((cell_far (p := ⟨gb1221, _, none⟩) NB1220_1221.out _).trans (((cell_far (p := ⟨gb1221, _, none⟩) NB1220_1221.out _).trans (((cell_far (p := ⟨gb1221, _, none⟩) NB1220_1221.out _).trans (hHeld.1)))))), ((cell_far (p := ⟨gb1221, _, none⟩) NB1220_1221.out _).trans (((cell_far (p := ⟨gb1221, _, none⟩) NB1220_1221.out _).trans (((cell_far (p := ⟨gb1221, _, none⟩) NB1220_1221.out _).trans (hHeld.2.1)))))), ((cell_far (p := ⟨gb1221, _, none⟩) NB1220_1221.out _).trans (((cell_far (p := ⟨gb1221, _, none⟩) NB1220_1221.out _).trans (((cell_far (p := ⟨gb1221, _, none⟩) NB1220_1221.out _).trans (hHeld.2.2))))))⟩ (fun hHeld => ?_)
   clear hK K
   refine done_ (done_of HT_.out (by kernel_rfl)) ?_
   try go_wp2
   refine bodyPost_ret (results_cell_row rfl _ _ gb1221 50 #[.bool a0_0, .slice Ao15 y1225.length co15, .slice Ao14 y1231.length co14] (0, 0) _ rfl (by (with_reducible repeat (first | refine Zg ?_ _ | refine Zi ?_ | refine Zh ?_ _)); refine Ym (cs := #[.bool a0_0, .slice Ao15 y1225.length co15, .slice none 0 0]) ?_ 2 _ rfl; (with_reducible repeat (first | refine Zg ?_ _ | refine Zi ?_ | refine Zh ?_ _)); refine Ym (cs := #[.bool a0_0, .slice none 0 0, .slice none 0 0]) ?_ 1 _ rfl; (with_reducible repeat (first | refine Zg ?_ _ | refine Zi ?_ | refine Zh ?_ _)); refine Ym (cs := #[.bool false, .slice none 0 0, .slice none 0 0]) ?_ 0 _ rfl; (with_reducible repeat (first | refine Zg ?_ _ | refine Zi ?_ | refine Zh ?_ _)); exact BK1221.out) Try.underlying50 rfl (by kernel_rfl)) rfl ?_
   exact ⟨_, _, by first | rfl | (simp [Zp, Zo] <;> rfl) | (simp [*, Zp, Zo] <;> rfl), by (with_reducible repeat (first | apply Kd.Zf | apply Kd.Ze | apply Kd.Zj)); exact Kd.Zv (Kd.Yh (p := ⟨gb1221, 2, none⟩) (Kd.Yh (p := ⟨gb1221, 1, none⟩) (Kd.Yh (p := ⟨gb1221, 0, none⟩) (Kd.Yq HO1227.out BK1221.out (by decide)) (fun _ hk => hk.2) (.bool a0_0)) (fun _ hk => hk.2) (.slice Ao15 y1225.length co15)) (fun _ hk => hk.2) (.slice Ao14 y1231.length co14)) (fun _ hk => hk.1.2), by (with_reducible repeat (first | apply Kd.Zf | apply Kd.Ze | apply Kd.Zj)); exact Kd.Zv (Kd.Yh (p := ⟨gb1221, 2, none⟩) (Kd.Yh (p := ⟨gb1221, 1, none⟩) (Kd.Yh (p := ⟨gb1221, 0, none⟩) (Kd.Yq HO1233.out BK1221.out (by decide)) (fun _ hk => hk.2) (.bool a0_0)) (fun _ hk => hk.2) (.slice Ao15 y1225.length co15)) (fun _ hk => hk.2) (.slice Ao14 y1231.length co14)) (fun _ hk => hk.1), by repeat (first | (with_reducible first | exact HB.out | apply Zb | apply Za | apply Zc | refine Zd ?_ GE1220.out | refine Zd ?_ GE1221.out) | exact HB.out)⟩
  ·rw [if_neg c3] at H
   exact absurd H (by simp)
 ·rw [if_neg c2] at H
  exact absurd H (by simp)
def sibyllaw02_own.f (a0_0 : Bool) (l0_1 : List Int) (l0_2 : List Int) : Option (Bool × List Int × List Int) := (sibylref02_Copy.f a0_0 l0_1 l0_2).bind fun bt1236 => (some (bt1236.1, bt1236.2.1, bt1236.2.2))
set_option maxHeartbeats 8000000 in
set_option maxRecDepth 100000 in
theorem sibyllaw02_own.calls (a0_0 : Bool) (A0_1 : Option Addr) (c0_1 : Nat) (l0_1 : List Int) (A0_2 : Option Addr) (c0_2 : Nat) (l0_2 : List Int) (r1 : Bool) (r2 : List Int) (r3 : List Int) (w : World) (hr0_1 : Kd.C (Kd.int .u32) w A0_1 l0_1.length l0_1) (hc0_1 : l0_1.length ≤ c0_1) (hr0_2 : Kd.C (Kd.int .u32) w A0_2 l0_2.length l0_2) (hc0_2 : l0_2.length ≤ c0_2) (h : sibyllaw02_own.f a0_0 l0_1 l0_2 = some (r1, r2, r3)) :
  Calls Try.prog 51 #[.agg #[.bool a0_0, .slice A0_1 l0_1.length c0_1, .slice A0_2 l0_2.length c0_2]] w fun e w' => ∃ v1_ v2_ : Value, e = .returned (.agg #[.bool r1, v1_, v2_]) ∧ Kd.R (Kd.int .u32) 47 w' w.heap.size (fun k_ => some k_ ≠ (v2_ : Value).ownBlock) v1_ r2 ∧ Kd.R (Kd.int .u32) 47 w' w.heap.size (fun k_ => some k_ ≠ (v1_ : Value).ownBlock) v2_ r3 ∧ Below w.heap.size w w' := by
 have hu50 := Try.underlying50
 have HR0_1 := Yt.mk hr0_1
 have HC0_1 := Yt.mk hc0_1
 clear hr0_1 hc0_1
 have HR0_2 := Yt.mk hr0_2
 have HC0_2 := Yt.mk hc0_2
 clear hr0_2 hc0_2
 have HB := Yt.mk (Below.refl w.heap.size w)
 have H : ((sibylref02_Copy.f a0_0 l0_1 l0_2).bind fun bt1236 => (some (bt1236.1, bt1236.2.1, bt1236.2.2))) = some (r1, r2, r3) := h
 clear h
 replace H := Option.bind_eq_some_iff.mp H
 obtain ⟨⟨t1236, t1237, t1240⟩, A20, H⟩ := H
 replace H : (some (t1236, t1237, t1240)) = some (r1, r2, r3) := H
 have A2 := Yt.mk A20
 clear A20
 simp only [Option.some.injEq, Prod.mk.injEq] at H
 obtain ⟨rfl, rfl, rfl⟩ := H
 go_enter Try.func51, Try.ntmps51
 go_wp2_with (first | ((with_reducible refine Yk (N := 1) rfl ?_); refine Yo ?hg (N := 1) ?hd (cs := #[.bool a0_0, .slice A0_1 l0_1.length c0_1, .slice A0_2 l0_2.length c0_2]) (t := 50) ?hr ?_; (case hd => rfl); (case hg => rfl); (case hr => first | (go_simp; done) | (go_simp; rfl)); intro gb1234 hg w3 hbox hb; have n0_ := Yt.mk (Zm (by repeat (first | (with_reducible first | exact HB.out | apply Zb | apply Za | apply Zc) | exact HB.out)) hb); have n1_ := Yt.mk (hbox); have n2_ := Yt.mk ((by rw [hg]; exact (Zk (by repeat (first | (with_reducible first | exact HB.out | apply Zb | apply Za | apply Zc) | exact HB.out))) : w.heap.size ≤ gb1234)); have n3_ := Yt.mk ((by rw [hg]; exact (Zk (by repeat (first | (with_reducible first | exact HB.out | apply Zb | apply Za | apply Zc) | exact HB.out))) : w.heap.size ≤ gb1234)); clear HB; have HB := n0_; have BK1234 := n1_; have GW1234 := n2_; have GE1234 := n3_; clear n0_ n1_ n2_ n3_; clear hb hbox hg) | ((with_reducible refine Yk (N := 2) rfl ?_); refine Yo ?hg (N := 2) ?hd (cs := #[.bool false, .slice none 0 0, .slice none 0 0]) (t := 50) ?hr ?_; (case hd => rfl); (case hg => rfl); (case hr => first | (go_simp; done) | (go_simp; rfl)); intro gb1235 hg w4 hbox hb; have n0_ := Yt.mk (Zq (g := gb1234) (o := .cells #[.bool a0_0, .slice A0_1 l0_1.length c0_1, .slice A0_2 l0_2.length c0_2] 50 (0, 0)) (by (with_reducible repeat (first | refine Zg ?_ _ | refine Zi ?_ | refine Zh ?_ _)); exact BK1234.out) hb); have n1_ := Yt.mk (Zm (by repeat (first | (with_reducible first | exact HB.out | apply Zb | apply Za | apply Zc | refine Zd ?_ GE1234.out) | exact HB.out)) hb); have n2_ := Yt.mk (hbox); have n3_ := Yt.mk ((by rw [hg]; exact (Zk (by repeat (first | (with_reducible first | exact HB.out | apply Zb | apply Za | apply Zc | refine Zd ?_ GE1234.out) | exact HB.out))) : w.heap.size ≤ gb1235)); have n4_ := Yt.mk ((by rw [hg]; exact (Zk (by repeat (first | (with_reducible first | exact HB.out | apply Zb | apply Za | apply Zc | refine Zd ?_ GE1234.out) | exact HB.out))) : w.heap.size ≤ gb1235)); have n5_ := Yt.mk ((by rw [hg]; exact Nat.ne_of_lt (blk_lt (g := gb1234) (o := .cells #[.bool a0_0, .slice A0_1 l0_1.length c0_1, .slice A0_2 l0_2.length c0_2] 50 (0, 0)) (by (with_reducible repeat (first | refine Zg ?_ _ | refine Zi ?_ | refine Zh ?_ _)); exact BK1234.out)) : gb1234 ≠ gb1235)); have n6_ := Yt.mk ((by rw [hg]; exact Nat.ne_of_gt (blk_lt (g := gb1234) (o := .cells #[.bool a0_0, .slice A0_1 l0_1.length c0_1, .slice A0_2 l0_2.length c0_2] 50 (0, 0)) (by (with_reducible repeat (first | refine Zg ?_ _ | refine Zi ?_ | refine Zh ?_ _)); exact BK1234.out)) : gb1235 ≠ gb1234)); clear BK1234; clear HB; have BK1234 := n0_; have HB := n1_; have BK1235 := n2_; have GW1235 := n3_; have GE1235 := n4_; have NB1234_1235 := n5_; have NB1235_1234 := n6_; clear n0_ n1_ n2_ n3_ n4_ n5_ n6_; clear hb hbox hg; have hnb5 := NB1234_1235.out; have hnc5 := NB1235_1234.out; have hcz6_0 : w4.cell? ⟨gb1234, 0, none⟩ = some (.bool a0_0) := (Zl BK1234.out 0).trans rfl; have hcz6_1 : w4.cell? ⟨gb1234, 1, none⟩ = some (.slice A0_1 l0_1.length c0_1) := (Zl BK1234.out 1).trans rfl; have hcz6_2 : w4.cell? ⟨gb1234, 2, none⟩ = some (.slice A0_2 l0_2.length c0_2) := (Zl BK1234.out 2).trans rfl; have hfz6_0 := Zn BK1234.out 0; have hfz6_1 := Zn BK1234.out 1; have hfz6_2 := Zn BK1234.out 2) | ((with_reducible refine Zr (f := 97) rfl ?_); refine Yg (some 4) rfl rfl Try.func97 (by kernel_rfl) rfl #[.agg #[.bool a0_0, .slice A0_1 l0_1.length c0_1, .slice A0_2 l0_2.length c0_2]] rfl (by (try simp only [List.map_toArray, List.map_cons, List.map_nil]); first | done | rfl | (simp only [List.length_drop, List.length_take]; rfl)) ?_; (with_reducible refine (sibylref02_Copy.calls a0_0 _ _ l0_1 _ _ l0_2 t1236 t1237 t1240 _ ?side1 ?side2 ?side3 ?side4 A2.out).mono ?_); (case side1 => repeat (first | exact (Kd.Ys HR0_1.out HB.out) | (with_reducible refine Kd.Zu ?_ _) | (with_reducible refine Kd.Zt ?_ _) | (with_reducible refine Kd.Yc ?_))); (case side2 => exact HC0_1.out); (case side3 => repeat (first | exact (Kd.Ys HR0_2.out HB.out) | (with_reducible refine Kd.Zu ?_ _) | (with_reducible refine Kd.Zt ?_ _) | (with_reducible refine Kd.Yc ?_))); (case side4 => exact HC0_2.out); rintro e w7 ⟨v1238, v1241, rfl, ho0, ho1, hb⟩; refine ⟨_, rfl, ?_⟩; have n0_ := Yt.mk (Kd.Yb ho0 (Zk (by repeat (first | (with_reducible first | exact HB.out | apply Zb | apply Za | apply Zc | refine Zd ?_ GE1234.out | refine Zd ?_ GE1235.out) | exact HB.out)))); have n1_ := Yt.mk (Kd.Yb ho1 (Zk (by repeat (first | (with_reducible first | exact HB.out | apply Zb | apply Za | apply Zc | refine Zd ?_ GE1234.out | refine Zd ?_ GE1235.out) | exact HB.out)))); have n2_ := Yt.mk (Zq (g := gb1234) (o := .cells #[.bool a0_0, .slice A0_1 l0_1.length c0_1, .slice A0_2 l0_2.length c0_2] 50 (0, 0)) (by (with_reducible repeat (first | refine Zg ?_ _ | refine Zi ?_ | refine Zh ?_ _)); exact BK1234.out) hb); have n3_ := Yt.mk (Zq (g := gb1235) (o := .cells #[.bool false, .slice none 0 0, .slice none 0 0] 50 (0, 0)) (by (with_reducible repeat (first | refine Zg ?_ _ | refine Zi ?_ | refine Zh ?_ _)); exact BK1235.out) hb); have n4_ := Yt.mk (Zm (by repeat (first | (with_reducible first | exact HB.out | apply Zb | apply Za | apply Zc | refine Zd ?_ GE1234.out | refine Zd ?_ GE1235.out) | exact HB.out)) hb); clear BK1234; clear BK1235; clear HB; have HO1239 := n0_; have HO1242 := n1_; have BK1234 := n2_; have BK1235 := n3_; have HB := n4_; clear n0_ n1_ n2_ n3_ n4_; (try clear hb); (try clear hb2); (try clear hk); (try clear hi); (try clear ho0); (try clear ho1); have hcz8_0 : w7.cell? ⟨gb1235, 0, none⟩ = some (.bool false) := (Zl BK1235.out 0).trans rfl; have hcz8_1 : w7.cell? ⟨gb1235, 1, none⟩ = some (.slice none 0 0) := (Zl BK1235.out 1).trans rfl; have hcz8_2 : w7.cell? ⟨gb1235, 2, none⟩ = some (.slice none 0 0) := (Zl BK1235.out 2).trans rfl; have hfz8_0 := Zn BK1235.out 0; have hfz8_1 := Zn BK1235.out 1; have hfz8_2 := Zn BK1235.out 2; obtain ⟨Ao9, co9, eo9⟩ := Kd.Zx HO1239.out; subst eo9; obtain ⟨Ao10, co10, eo10⟩ := Kd.Zx HO1242.out; subst eo10))
 refine bodyPost_ret (results_cell_row rfl _ _ gb1235 50 #[.bool t1236, .slice Ao9 t1237.length co9, .slice Ao10 t1240.length co10] (0, 0) _ rfl (by (with_reducible repeat (first | refine Zg ?_ _ | refine Zi ?_ | refine Zh ?_ _)); refine Ym (cs := #[.bool t1236, .slice Ao9 t1237.length co9, .slice none 0 0]) ?_ 2 _ rfl; (with_reducible repeat (first | refine Zg ?_ _ | refine Zi ?_ | refine Zh ?_ _)); refine Ym (cs := #[.bool t1236, .slice none 0 0, .slice none 0 0]) ?_ 1 _ rfl; (with_reducible repeat (first | refine Zg ?_ _ | refine Zi ?_ | refine Zh ?_ _)); refine Ym (cs := #[.bool false, .slice none 0 0, .slice none 0 0]) ?_ 0 _ rfl; (with_reducible repeat (first | refine Zg ?_ _ | refine Zi ?_ | refine Zh ?_ _)); exact BK1235.out) Try.underlying50 rfl (by kernel_rfl)) rfl ?_
 exact ⟨_, _, by first | rfl | (simp [Zp, Zo] <;> rfl) | (simp [*, Zp, Zo] <;> rfl), by (with_reducible repeat (first | apply Kd.Zf | apply Kd.Ze | apply Kd.Zj)); exact Kd.Zv (Kd.Yh (p := ⟨gb1235, 2, none⟩) (Kd.Yh (p := ⟨gb1235, 1, none⟩) (Kd.Yh (p := ⟨gb1235, 0, none⟩) (Kd.Yq HO1239.out BK1235.out (by decide)) (fun _ hk => hk.2) (.bool t1236)) (fun _ hk => hk.2) (.slice Ao9 t1237.length co9)) (fun _ hk => hk.2) (.slice Ao10 t1240.length co10)) (fun _ hk => hk.1), by (with_reducible repeat (first | apply Kd.Zf | apply Kd.Ze | apply Kd.Zj)); exact Kd.Zv (Kd.Yh (p := ⟨gb1235, 2, none⟩) (Kd.Yh (p := ⟨gb1235, 1, none⟩) (Kd.Yh (p := ⟨gb1235, 0, none⟩) (Kd.Yq HO1242.out BK1235.out (by decide)) (fun _ hk => hk.2) (.bool t1236)) (fun _ hk => hk.2) (.slice Ao9 t1237.length co9)) (fun _ hk => hk.2) (.slice Ao10 t1240.length co10)) (fun _ hk => hk.1), by repeat (first | (with_reducible first | exact HB.out | apply Zb | apply Za | apply Zc | refine Zd ?_ GE1234.out | refine Zd ?_ GE1235.out) | exact HB.out)⟩
def sibylref02_Zero.f (a0_0 : Bool) (l0_1 : List Int) (l0_2 : List Int) : Option (Bool) := if a0_0 = true then (some false) else (if (l0_1.length : Int) = 0 then (some ((l0_2.length : Int) == 0)) else (some false))
set_option maxHeartbeats 8000000 in
set_option maxRecDepth 100000 in
theorem sibylref02_Zero.calls (a0_0 : Bool) (A0_1 : Option Addr) (c0_1 : Nat) (l0_1 : List Int) (A0_2 : Option Addr) (c0_2 : Nat) (l0_2 : List Int) (r : Bool) (w : World) (hr0_1 : Kd.C (Kd.int .u32) w A0_1 l0_1.length l0_1) (hc0_1 : l0_1.length ≤ c0_1) (hr0_2 : Kd.C (Kd.int .u32) w A0_2 l0_2.length l0_2) (hc0_2 : l0_2.length ≤ c0_2) (h : sibylref02_Zero.f a0_0 l0_1 l0_2 = some r) :
  Calls Try.prog 61 #[.agg #[.bool a0_0, .slice A0_1 l0_1.length c0_1, .slice A0_2 l0_2.length c0_2]] w fun e w' => e = .returned (.bool r) ∧ Below w.heap.size w w' := by
 have hu50 := Try.underlying50
 have HR0_1 := Yt.mk hr0_1
 have HC0_1 := Yt.mk hc0_1
 clear hr0_1 hc0_1
 have HR0_2 := Yt.mk hr0_2
 have HC0_2 := Yt.mk hc0_2
 clear hr0_2 hc0_2
 have HB := Yt.mk (Below.refl w.heap.size w)
 have H : (if a0_0 = true then (some false) else (if (l0_1.length : Int) = 0 then (some ((l0_2.length : Int) == 0)) else (some false))) = some r := h
 clear h
 by_cases c2 : a0_0 = true
 ·subst c2
  have H1 : (some false) = some r := by rw [if_pos rfl] at H; exact H
  clear H
  have H := H1
  clear H1
  obtain rfl := Option.some.inj H
  go_enter Try.func61, Try.ntmps61
  go_wp2_with (first | ((with_reducible refine Yk (N := 1) rfl ?_); (try (refine gate_guard (by rfl) ?_; dsimp only)); refine Yo ?hg (N := 1) ?hd (cs := #[.bool true, .slice A0_1 l0_1.length c0_1, .slice A0_2 l0_2.length c0_2]) (t := 50) ?hr ?_; (case hd => rfl); (case hg => rfl); (case hr => first | (go_simp; done) | (go_simp; rfl)); intro gb1437 hg w3 hbox hb; have n0_ := Yt.mk (Zm (by repeat (first | (with_reducible first | exact HB.out | apply Zb | apply Za | apply Zc) | exact HB.out)) hb); have n1_ := Yt.mk (hbox); have n2_ := Yt.mk ((by rw [hg]; exact (Zk (by repeat (first | (with_reducible first | exact HB.out | apply Zb | apply Za | apply Zc) | exact HB.out))) : w.heap.size ≤ gb1437)); have n3_ := Yt.mk ((by rw [hg]; exact (Zk (by repeat (first | (with_reducible first | exact HB.out | apply Zb | apply Za | apply Zc) | exact HB.out))) : w.heap.size ≤ gb1437)); clear HB; have HB := n0_; have BK1437 := n1_; have GW1437 := n2_; have GE1437 := n3_; clear n0_ n1_ n2_ n3_; clear hb hbox hg; have hcz4_0 : w3.cell? ⟨gb1437, 0, none⟩ = some (.bool true) := (Zl BK1437.out 0).trans rfl; have hcz4_1 : w3.cell? ⟨gb1437, 1, none⟩ = some (.slice A0_1 l0_1.length c0_1) := (Zl BK1437.out 1).trans rfl; have hcz4_2 : w3.cell? ⟨gb1437, 2, none⟩ = some (.slice A0_2 l0_2.length c0_2) := (Zl BK1437.out 2).trans rfl; have hfz4_0 := Zn BK1437.out 0; have hfz4_1 := Zn BK1437.out 1; have hfz4_2 := Zn BK1437.out 2))
  go_ret
  exact ⟨by first | rfl | (simp [Zp, Zo] <;> rfl) | (simp [*, Zp, Zo] <;> rfl), by repeat (first | (with_reducible first | exact HB.out | apply Zb | apply Za | apply Zc | refine Zd ?_ GE1437.out) | exact HB.out)⟩
 ·replace c2 := Bool.eq_false_iff.mpr c2
  subst c2
  have H1 : (if (l0_1.length : Int) = 0 then (some ((l0_2.length : Int) == 0)) else (some false)) = some r := by rw [if_neg (show ¬ (false = true) by decide)] at H; exact H
  clear H
  have H := H1
  clear H1
  by_cases c5 : (l0_1.length : Int) = 0
  ·rw [if_pos c5] at H
   have c5b0 : ((l0_1.length : Int) == 0) = true := beq_iff_eq.mpr c5
   have c5b1 : ((l0_1.length : Int) != 0) = false := bne_eq_false_iff_eq.mpr c5
   clear c5
   obtain rfl := Option.some.inj H
   go_enter Try.func61, Try.ntmps61
   go_wp2_with (first | ((with_reducible refine Yk (N := 1) rfl ?_); (try (refine gate_guard (by rfl) ?_; dsimp only)); refine Yo ?hg (N := 1) ?hd (cs := #[.bool false, .slice A0_1 l0_1.length c0_1, .slice A0_2 l0_2.length c0_2]) (t := 50) ?hr ?_; (case hd => rfl); (case hg => rfl); (case hr => first | (go_simp; done) | (go_simp; rfl)); intro gb1437 hg w6 hbox hb; have n0_ := Yt.mk (Zm (by repeat (first | (with_reducible first | exact HB.out | apply Zb | apply Za | apply Zc) | exact HB.out)) hb); have n1_ := Yt.mk (hbox); have n2_ := Yt.mk ((by rw [hg]; exact (Zk (by repeat (first | (with_reducible first | exact HB.out | apply Zb | apply Za | apply Zc) | exact HB.out))) : w.heap.size ≤ gb1437)); have n3_ := Yt.mk ((by rw [hg]; exact (Zk (by repeat (first | (with_reducible first | exact HB.out | apply Zb | apply Za | apply Zc) | exact HB.out))) : w.heap.size ≤ gb1437)); clear HB; have HB := n0_; have BK1437 := n1_; have GW1437 := n2_; have GE1437 := n3_; clear n0_ n1_ n2_ n3_; clear hb hbox hg; have hcz7_0 : w6.cell? ⟨gb1437, 0, none⟩ = some (.bool false) := (Zl BK1437.out 0).trans rfl; have hcz7_1 : w6.cell? ⟨gb1437, 1, none⟩ = some (.slice A0_1 l0_1.length c0_1) := (Zl BK1437.out 1).trans rfl; have hcz7_2 : w6.cell? ⟨gb1437, 2, none⟩ = some (.slice A0_2 l0_2.length c0_2) := (Zl BK1437.out 2).trans rfl; have hfz7_0 := Zn BK1437.out 0; have hfz7_1 := Zn BK1437.out 1; have hfz7_2 := Zn BK1437.out 2))
   go_ret
   exact ⟨by first | rfl | (simp [Zp, Zo] <;> rfl) | (simp [*, Zp, Zo] <;> rfl), by repeat (first | (with_reducible first | exact HB.out | apply Zb | apply Za | apply Zc | refine Zd ?_ GE1437.out) | exact HB.out)⟩
  ·rw [if_neg c5] at H
   have c5b0 : ((l0_1.length : Int) == 0) = false := beq_eq_false_iff_ne.mpr c5
   have c5b1 : ((l0_1.length : Int) != 0) = true := bne_iff_ne.mpr c5
   have c5b2 : ¬ (l0_1 = []) := fun h_ => c5 (by rw [h_]; rfl)
   obtain rfl := Option.some.inj H
   go_enter Try.func61, Try.ntmps61
   go_wp2_with (first | ((with_reducible refine Yk (N := 1) rfl ?_); (try (refine gate_guard (by rfl) ?_; dsimp only)); refine Yo ?hg (N := 1) ?hd (cs := #[.bool false, .slice A0_1 l0_1.length c0_1, .slice A0_2 l0_2.length c0_2]) (t := 50) ?hr ?_; (case hd => rfl); (case hg => rfl); (case hr => first | (go_simp; done) | (go_simp; rfl)); intro gb1437 hg w8 hbox hb; have n0_ := Yt.mk (Zm (by repeat (first | (with_reducible first | exact HB.out | apply Zb | apply Za | apply Zc) | exact HB.out)) hb); have n1_ := Yt.mk (hbox); have n2_ := Yt.mk ((by rw [hg]; exact (Zk (by repeat (first | (with_reducible first | exact HB.out | apply Zb | apply Za | apply Zc) | exact HB.out))) : w.heap.size ≤ gb1437)); have n3_ := Yt.mk ((by rw [hg]; exact (Zk (by repeat (first | (with_reducible first | exact HB.out | apply Zb | apply Za | apply Zc) | exact HB.out))) : w.heap.size ≤ gb1437)); clear HB; have HB := n0_; have BK1437 := n1_; have GW1437 := n2_; have GE1437 := n3_; clear n0_ n1_ n2_ n3_; clear hb hbox hg; have hcz9_0 : w8.cell? ⟨gb1437, 0, none⟩ = some (.bool false) := (Zl BK1437.out 0).trans rfl; have hcz9_1 : w8.cell? ⟨gb1437, 1, none⟩ = some (.slice A0_1 l0_1.length c0_1) := (Zl BK1437.out 1).trans rfl; have hcz9_2 : w8.cell? ⟨gb1437, 2, none⟩ = some (.slice A0_2 l0_2.length c0_2) := (Zl BK1437.out 2).trans rfl; have hfz9_0 := Zn BK1437.out 0; have hfz9_1 := Zn BK1437.out 1; have hfz9_2 := Zn BK1437.out 2))
   go_ret
   exact ⟨by first | rfl | (simp [Zp, Zo] <;> rfl) | (simp [*, Zp, Zo] <;> rfl), by repeat (first | (with_reducible first | exact HB.out | apply Zb | apply Za | apply Zc | refine Zd ?_ GE1437.out) | exact HB.out)⟩
end Go.Proofs.Ytgffficaoioljaa.P
end
section
namespace Go.Proofs.Ytgffficaoioljaa.P
open Go.RowKit Go.Proofs.YtgffficaoioljaaW.PrintWords Go.Proofs.YtgffficaoioljaaW.PrintLast Go.Proofs.YtgffficaoioljaaW.PrintMore
attribute [local go_sem] max2_int min2_int max_two min_two max_three min_three max_four min_four
set_option linter.unusedVariables false
set_option linter.unusedSimpArgs false
set_option linter.unusedSimpArgs false
set_option linter.unusedSimpArgs false
set_option linter.unusedSimpArgs false
set_option linter.unusedSimpArgs false
set_option linter.unusedSimpArgs false
set_option linter.unusedSimpArgs false
set_option linter.unusedSimpArgs false
set_option linter.unusedSimpArgs false
set_option linter.unusedSimpArgs false
set_option linter.unusedSimpArgs false
set_option linter.unusedSimpArgs false
set_option linter.unusedSimpArgs false
set_option linter.unusedSimpArgs false
set_option linter.unusedSimpArgs false
set_option linter.unusedSimpArgs false
set_option linter.unusedSimpArgs false
end Go.Proofs.Ytgffficaoioljaa.P
end
