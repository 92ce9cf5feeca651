import Derived.Test.YtgffficaoioljaaCf10
import Derived.Test.YtgffficaoioljaaCf11
section
namespace Go.Proofs.Ytgffficaoioljaa.P
open Go.RowKit Go.Proofs.YtgffficaoioljaaW.PrintWords Go.Proofs.YtgffficaoioljaaW.PrintLast Go.Proofs.YtgffficaoioljaaW.PrintMore
attribute [local go_sem] max2_int min2_int max_two min_two max_three min_three max_four min_four
set_option linter.unusedVariables false
set_option linter.unusedSimpArgs false
mutual
def sibylref01_Divide.l0 : Nat → List Int → List Int → List Int → List Int → Int → Option (List Int × List Int)
  | 0, _, _, _, _, _ => none
  | k + 1, x0, x1, x7, x8, x9 => if x9 ≥ 0 then ((sibylref01_Shl.f k x8 1).bind fun t516 => ((sibylref01_Bit.f x0 x9).bind fun t519 => (if t519 = true then ((sibylref01_Plus.f k t516 (([1] : List Int))).bind fun t523 => (sibylref01_Divide.j1 k x0 x1 x7 t523 x9)) else (sibylref01_Divide.j1 k x0 x1 x7 t516 x9)))) else ((sibylref01_Trim.f k x7).bind fun t513 => (some (t513, x8)))
def sibylref01_Divide.j1 : Nat → List Int → List Int → List Int → List Int → Int → Option (List Int × List Int)
  | 0, _, _, _, _, _ => none
  | k + 1, x0, x1, x7, x8, x9 => (sibylref01_Cmp.f k x8 x1).bind fun t526 => (if t526 ≥ 0 then ((sibylref01_Minus.f k x8 x1).bind fun t527 => (if 0 ≤ (wrap64 (Int.tdiv x9 32)) then (if (wrap64 (Int.tdiv x9 32)) < (x7.length : Int) then (if 0 ≤ (IntKind.u64.wrap (Int.tmod x9 32)) then (sibylref01_Divide.l0 k x0 x1 (x7.set ((wrap64 (Int.tdiv x9 32)) : Int).toNat (((rd x7 (wrap64 (Int.tdiv x9 32))) + (shl .u32 1 (IntKind.u64.wrap (Int.tmod x9 32)))) % 4294967296)) t527 (wrap64 (x9 - 1))) else (none)) else (none)) else (none))) else (sibylref01_Divide.l0 k x0 x1 x7 x8 (wrap64 (x9 - 1))))
end
def sibylref01_Divide.f (k : Nat) (l0 : List Int) (l1 : List Int) : Option (List Int × List Int) := (sibylref01_Bits.f k l0).bind fun t509 => (if 0 ≤ (wrap64 ((wrap64 (Int.tdiv t509 32)) + 1)) then (if (wrap64 ((wrap64 (Int.tdiv t509 32)) + 1) : Int).toNat ≤ 70368744177664 then (sibylref01_Divide.l0 k l0 l1 (List.replicate (wrap64 ((wrap64 (Int.tdiv t509 32)) + 1) : Int).toNat 0) ([] : List Int) (wrap64 (t509 - 1))) else (none)) else (none))
set_option maxHeartbeats 8000000 in
set_option maxRecDepth 100000 in
theorem sibylref01_Divide.calls (k : Nat) (A0 : Option Addr) (c0 : Nat) (l0 : List Int) (A1 : Option Addr) (c1 : Nat) (l1 : List Int) (r1 : List Int) (r2 : List Int) (w : World) (hr0 : Kd.C (Kd.int .u32) w A0 l0.length l0) (hc0 : l0.length ≤ c0) (hr1 : Kd.C (Kd.int .u32) w A1 l1.length l1) (hc1 : l1.length ≤ c1) (h : sibylref01_Divide.f k l0 l1 = some (r1, r2)) :
    Calls Try.prog 28 #[.slice A0 l0.length c0, .slice A1 l1.length c1] w fun e w' => ∃ v0_ v1_ : Value, e = .returned (.tuple #[v0_, v1_]) ∧ Kd.R (Kd.int .u32) 47 w' w.heap.size (fun k_ => some k_ ≠ (v1_ : Value).ownBlock) v0_ r1 ∧ Kd.R (Kd.int .u32) 47 w' w.heap.size (fun k_ => some k_ ≠ (v0_ : Value).ownBlock) v1_ r2 ∧ Below w.heap.size w w' := by
  have HR0 := Aside0.mk hr0
  have HC0 := Aside0.mk hc0
  clear hr0 hc0
  have HR1 := Aside0.mk hr1
  have HC1 := Aside0.mk hc1
  clear hr1 hc1
  have HB := Aside0.mk (Below.refl w.heap.size w)
  have H : ((sibylref01_Bits.f k l0).bind fun t509 => (if 0 ≤ (wrap64 ((wrap64 (Int.tdiv t509 32)) + 1)) then (if (wrap64 ((wrap64 (Int.tdiv t509 32)) + 1) : Int).toNat ≤ 70368744177664 then (sibylref01_Divide.l0 k l0 l1 (List.replicate (wrap64 ((wrap64 (Int.tdiv t509 32)) + 1) : Int).toNat 0) ([] : List Int) (wrap64 (t509 - 1))) else (none)) else (none))) = some (r1, r2) := h
  clear h
  replace H := Option.bind_eq_some_iff.mp H
  obtain ⟨t509, A30, H⟩ := H
  replace H : (if 0 ≤ (wrap64 ((wrap64 (Int.tdiv t509 32)) + 1)) then (if (wrap64 ((wrap64 (Int.tdiv t509 32)) + 1) : Int).toNat ≤ 70368744177664 then (sibylref01_Divide.l0 k l0 l1 (List.replicate (wrap64 ((wrap64 (Int.tdiv t509 32)) + 1) : Int).toNat 0) ([] : List Int) (wrap64 (t509 - 1))) else (none)) else (none)) = some (r1, r2) := H
  have A3 := Aside0.mk A30
  clear A30
  obtain ⟨ji4, hji4⟩ : ∃ j_ : Int, (wrap64 ((wrap64 (Int.tdiv t509 32)) + 1)) = j_ := ⟨_, rfl⟩
  replace H : (if 0 ≤ (ji4) then (if (ji4 : Int).toNat ≤ 70368744177664 then (sibylref01_Divide.l0 k l0 l1 (List.replicate (ji4 : Int).toNat 0) ([] : List Int) (wrap64 (t509 - 1))) else (none)) else (none)) = some (r1, r2) := by first | (rw [hji4] at H; exact H) | (simp only [hji4] at H ⊢; exact H)
  (try rw [hji4] at A3)
  have hji4w : (IntKind.i64.wrap ((wrap64 (Int.tdiv t509 32)) + 1)) = ji4 := (i64_w _).trans hji4
  by_cases c5 : 0 ≤ (ji4)
  · rw [if_pos c5] at H
    have c5b0 := eq_true c5
    have c5b1 : decide (0 ≤ (ji4)) = true := decide_eq_true c5
    clear c5
    by_cases c6 : (ji4 : Int).toNat ≤ 70368744177664
    · rw [if_pos c6] at H
      have c6b0 := eq_true c6
      have c6b1 : decide ((ji4 : Int).toNat ≤ 70368744177664) = true := decide_eq_true c6
      clear c6
      obtain ⟨y510, hy510⟩ : ∃ y_ : List Int, y_ = (List.replicate (ji4 : Int).toNat 0) := ⟨_, rfl⟩
      replace H : (sibylref01_Divide.l0 k l0 l1 y510 ([] : List Int) (wrap64 (t509 - 1))) = some (r1, r2) := by first | (rw [hy510]; with_reducible exact H) | (have H2_ := (Option.bind_some _ _).symm.trans H; rw [hy510]; with_reducible exact H2_) | (have H2_ := (Option.bind_some _ _).symm.trans H; with_reducible exact H2_) | with_reducible exact H | (rw [hy510]; exact H) | exact H
      have Ny510 := Aside0.mk hy510
      clear hy510
      have H' := Aside0.mk H
      clear H
      go_enter Try.func28, Try.ntmps28
      go_wp2_with (first | ((with_reducible refine gate_callee (f := 27) rfl ?_); refine goesL_ (some 11) rfl rfl Try.func27 (by kernel_rfl) rfl #[.slice A0 l0.length c0] rfl (by (try simp only [List.map_toArray, List.map_cons, List.map_nil]); first | done | rfl | (simp only [List.length_drop, List.length_take]; rfl)) ?_; (with_reducible refine (sibylref01_Bits.calls k _ _ l0 t509 _ ?side1 ?side2 A3.out).mono ?_); (case side1 => repeat (first | exact HR0.out | (with_reducible refine Kd.C_alloc ?_ _) | (with_reducible refine Kd.C_drewN ?_ _) | (with_reducible refine Kd.C_drew ?_))); (case side2 => exact HC0.out); rintro e w7 ⟨rfl, hb⟩; refine ⟨_, rfl, ?_⟩; have n0_ := Aside0.mk (below_step (by repeat (first | (with_reducible first | exact HB.out | apply below_alloc | apply pw_below_drewN | apply below_drew1) | exact HB.out)) hb); clear HB; have HB := n0_; clear n0_; (try clear hb); (try clear hb2); (try clear hk); (try clear hi)) | ((with_reducible refine gate_dst (N := 15) rfl ?_); refine Kd.R_make (Kd.int .u32) _ 47 rfl (N := 15) rfl 22 _ _ rfl ji4 rfl rfl Try.underlying22 (.int .u32 0) 4 info47 rfl (by decide) (by omega) 0 (ok := fun _ => True) (okp := fun _ => True) rfl (fun _ hk => hk) trivial (of_decide_eq_true (by first | (with_reducible assumption) | assumption)) (Nat.le_trans (Nat.mul_le_mul_right _ (of_decide_eq_true (by first | (with_reducible assumption) | assumption) : ji4.toNat ≤ 70368744177664)) (by omega)) (Below.refl _ _) (Nat.le_refl _) ?_; intro v511 w8 ho9 hb hg_ hnew_; clear hg_ hnew_; (first | rw [← Ny510.out] at ho9 | (simp only [Int.reduceToNat] at ho9; rw [← Ny510.out] at ho9)); have n0_ := Aside0.mk (Kd.R_lower ho9 (below_size (by repeat (first | (with_reducible first | exact HB.out | apply below_alloc | apply pw_below_drewN | apply below_drew1) | exact HB.out)))); have n1_ := Aside0.mk (below_step (by repeat (first | (with_reducible first | exact HB.out | apply below_alloc | apply pw_below_drewN | apply below_drew1) | exact HB.out)) hb); clear HB; have HO512 := n0_; have HB := n1_; clear n0_ n1_; clear hb ho9))
      go_loopg [8, 9] k (fun kq v8 v9 w' => ∃ (x7_1 : List Int) (x8_1 : List Int) (x9_1 : Int), v9 = .int .i64 x9_1 ∧ Aside0 (sibylref01_Divide.l0 kq l0 l1 x7_1 x8_1 x9_1 = some (r1, r2)) ∧ Aside0 (kq ≤ k) ∧ Aside0 (Kd.R (Kd.int .u32) 47 w' w.heap.size (fun k_ => some k_ ≠ (v8 : Value).ownBlock) v511 x7_1) ∧ Aside0 (Kd.R (Kd.int .u32) 47 w' w.heap.size (fun k_ => some k_ ≠ (v511 : Value).ownBlock) v8 x8_1) ∧ Aside0 (Below w.heap.size w w'))
      case atStart => exact ⟨(y510), (([] : List Int)), (wrap64 (t509 - 1)), (by first | rfl | (simp; done) | (simp [*]; done)), H', ⟨Nat.le_refl _⟩, ⟨by (with_reducible repeat (first | apply Kd.R_alloc | apply Kd.R_drewN | apply Kd.R_drew)); exact Kd.R_mono HO512.out (fun _ hk => (by simp [Value.ownBlock]))⟩, ⟨by first | exact Kd.R_nil _ _ _ _ _ | exact Kd.N_nil _ _ _ _ _ | exact Kd.V_nil _ _ _ _ _ | exact Kd.Q_nil _ _ _ _ _ | exact Kd.S_nil _ _ _ _ _⟩, ⟨by repeat (first | (with_reducible first | exact HB.out | apply below_alloc | apply pw_below_drewN | apply below_drew1) | exact HB.out)⟩⟩
      case round =>
        clear H'
        try clear c1
        try clear c2
        try clear p2
        try clear c5
        try clear c5b0
        try clear c5b1
        try clear c6
        try clear c6b0
        try clear c6b1
        try clear p6
        obtain ⟨x7_1, x8_1, x9_1, rfl, HA, HK1, HO_7, HO_8, HB⟩ := hrel
        cases gk with
        | zero => exact absurd HA.out (by simp [sibylref01_Divide.l0])
        | succ k1 =>
          have H := HA.out
          clear HA
          simp only [sibylref01_Divide.l0] at H
          by_cases c10 : x9_1 ≥ 0
          · rw [if_pos c10] at H
            have c10b0 : decide (0 ≤ x9_1) = true := decide_eq_true c10
            clear c10
            replace H := Option.bind_eq_some_iff.mp H
            obtain ⟨t516, A110, H⟩ := H
            replace H : ((sibylref01_Bit.f l0 x9_1).bind fun t519 => (if t519 = true then ((sibylref01_Plus.f k1 t516 (([1] : List Int))).bind fun t523 => (sibylref01_Divide.j1 k1 l0 l1 x7_1 t523 x9_1)) else (sibylref01_Divide.j1 k1 l0 l1 x7_1 t516 x9_1))) = some (r1, r2) := H
            have A11 := Aside0.mk A110
            clear A110
            replace H := Option.bind_eq_some_iff.mp H
            obtain ⟨t519, A120, H⟩ := H
            replace H : (if t519 = true then ((sibylref01_Plus.f k1 t516 (([1] : List Int))).bind fun t523 => (sibylref01_Divide.j1 k1 l0 l1 x7_1 t523 x9_1)) else (sibylref01_Divide.j1 k1 l0 l1 x7_1 t516 x9_1)) = some (r1, r2) := H
            have A12 := Aside0.mk A120
            clear A120
            have HC13 := Aside0.mk H
            clear H
            obtain ⟨Ao14, co14, eo14⟩ := Kd.R_slice HO_8.out
            subst eo14
            go_upto_if 26 with (first | ((with_reducible refine gate_callee (f := 84) rfl ?_); refine goesL_ (some 23) rfl rfl Try.func84 (by kernel_rfl) rfl #[.slice Ao14 x8_1.length co14, .int .i64 1] rfl (by (try simp only [List.map_toArray, List.map_cons, List.map_nil]); first | done | rfl | (simp only [List.length_drop, List.length_take]; rfl)) ?_; (with_reducible refine (sibylref01_Shl.calls k1 _ _ x8_1 1 t516 _ ?side1 ?side2 A11.out).mono ?_); (case side1 => repeat (first | exact (Kd.R_reads' HO_8.out).2.2 | (with_reducible refine Kd.C_alloc ?_ _) | (with_reducible refine Kd.C_drewN ?_ _) | (with_reducible refine Kd.C_drew ?_))); (case side2 => exact (Kd.R_reads' HO_8.out).2.1); rintro e w15 ⟨v517, rfl, ho0, hb⟩; refine ⟨_, rfl, ?_⟩; have n0_ := Aside0.mk (Kd.R_elder' (by (with_reducible repeat (first | apply Kd.R_alloc | apply Kd.R_drewN | apply Kd.R_drew)); exact HO_7.out) (Kd.R_base ho0) hb); have n1_ := Aside0.mk (Kd.R_elder' (by (with_reducible repeat (first | apply Kd.R_alloc | apply Kd.R_drewN | apply Kd.R_drew)); exact HO_8.out) (Kd.R_base ho0) hb); have n2_ := Aside0.mk (Kd.R_lower (Kd.R_new' (Kd.R_new' ho0 (Kd.R_lt (by (with_reducible repeat (first | apply Kd.R_alloc | apply Kd.R_drewN | apply Kd.R_drew)); exact HO_7.out))) (Kd.R_lt (by (with_reducible repeat (first | apply Kd.R_alloc | apply Kd.R_drewN | apply Kd.R_drew)); exact HO_8.out))) (below_size (by repeat (first | (with_reducible first | exact HB.out | apply below_alloc | apply pw_below_drewN | apply below_drew1) | exact HB.out)))); have n3_ := Aside0.mk (below_step (by repeat (first | (with_reducible first | exact HB.out | apply below_alloc | apply pw_below_drewN | apply below_drew1) | exact HB.out)) hb); clear HO_7; clear HO_8; clear HB; have HO_7 := n0_; have HO_8 := n1_; have HO518 := n2_; have HB := n3_; clear n0_ n1_ n2_ n3_; (try clear hb); (try clear hb2); (try clear hk); (try clear hi); (try clear ho0)) | ((with_reducible refine gate_callee (f := 85) rfl ?_); refine goesL_ (some 26) rfl rfl Try.func85 (by kernel_rfl) rfl #[.slice A0 l0.length c0, .int .i64 x9_1] rfl (by (try simp only [List.map_toArray, List.map_cons, List.map_nil]); first | done | rfl | (simp only [List.length_drop, List.length_take]; rfl)) ?_; (with_reducible refine (sibylref01_Bit.calls _ _ l0 x9_1 t519 _ ?side1 ?side2 A12.out).mono ?_); (case side1 => repeat (first | exact (Kd.C_below HR0.out HB.out) | (with_reducible refine Kd.C_alloc ?_ _) | (with_reducible refine Kd.C_drewN ?_ _) | (with_reducible refine Kd.C_drew ?_))); (case side2 => exact HC0.out); rintro e w' ⟨rfl, ⟨nd, rfl⟩⟩; refine ⟨_, rfl, ?_⟩))
            (try simp only [Act.put, List.setIfInBounds_toArray, List.set_cons_zero, List.set_cons_succ])
            go_cut [8] (fun v8 wc => ∃ (kq : Nat) (x8_12 : List Int), Aside0 (sibylref01_Divide.j1 kq l0 l1 x7_1 x8_12 x9_1 = some (r1, r2)) ∧ Aside0 (kq ≤ k1) ∧ Aside0 (Kd.R (Kd.int .u32) 47 wc w.heap.size (fun k_ => some k_ ≠ (v8 : Value).ownBlock) v511 x7_1) ∧ Aside0 (Kd.R (Kd.int .u32) 47 wc w.heap.size (fun k_ => some k_ ≠ (v511 : Value).ownBlock) v8 x8_12) ∧ Aside0 (Below w.heap.size w wc))
            case first =>
              have H := HC13.out
              clear HC13
              by_cases c16 : t519 = true
              · subst c16
                have H1 : ((sibylref01_Plus.f k1 t516 (([1] : List Int))).bind fun t523 => (sibylref01_Divide.j1 k1 l0 l1 x7_1 t523 x9_1)) = some (r1, r2) := by rw [if_pos rfl] at H; exact H
                clear H
                have H := H1
                clear H1
                obtain ⟨y520, hy520⟩ : ∃ y_ : List Int, y_ = (([1] : List Int)) := ⟨_, rfl⟩
                replace H : ((sibylref01_Plus.f k1 t516 y520).bind fun t523 => (sibylref01_Divide.j1 k1 l0 l1 x7_1 t523 x9_1)) = some (r1, r2) := by first | (rw [hy520]; with_reducible exact H) | (have H2_ := (Option.bind_some _ _).symm.trans H; rw [hy520]; with_reducible exact H2_) | (have H2_ := (Option.bind_some _ _).symm.trans H; with_reducible exact H2_) | with_reducible exact H | (rw [hy520]; exact H) | exact H
                have Ny520 := Aside0.mk hy520
                clear hy520
                replace H := Option.bind_eq_some_iff.mp H
                obtain ⟨t523, A170, H⟩ := H
                replace H : (sibylref01_Divide.j1 k1 l0 l1 x7_1 t523 x9_1) = some (r1, r2) := H
                have A17 := Aside0.mk A170
                clear A170
                have H' := Aside0.mk H
                clear H
                go_wp2_with (first | ((with_reducible refine gate_dst (N := 28) rfl ?_); refine Kd.R_lit (Kd.int .u32) _ 47 ?hg (N := 28) ?hd (xs := ([1] : List Int)) (inner := [.int .u32 1]) (ok := fun _ => True) (okp := fun _ => True) ?hr ?hp (fun _ hk => hk) trivial (Below.refl _ _) (Nat.le_refl _) (by simp) ?_; (case hd => rfl); (case hg => rfl); (case hr => first | (go_simp; done) | (go_simp; rfl)); (case hp => exact (Reps.one (show Kd.M (Kd.int .u32) _ _ _ 1 [.int .u32 1] from rfl) (Reps.none _ _))); intro v521 w18 ho19 hb hg_ hnew_; clear hg_ hnew_; (first | rw [← Ny520.out] at ho19 | (simp only [Int.reduceToNat] at ho19; rw [← Ny520.out] at ho19)); have n0_ := Aside0.mk (Kd.R_elder' (by (with_reducible repeat (first | apply Kd.R_alloc | apply Kd.R_drewN | apply Kd.R_drew)); exact HO_7.out) (Kd.R_base ho19) hb); have n1_ := Aside0.mk (Kd.R_elder' (by (with_reducible repeat (first | apply Kd.R_alloc | apply Kd.R_drewN | apply Kd.R_drew)); exact HO_8.out) (Kd.R_base ho19) hb); have n2_ := Aside0.mk (Kd.R_elder' (by (with_reducible repeat (first | apply Kd.R_alloc | apply Kd.R_drewN | apply Kd.R_drew)); exact HO518.out) (Kd.R_base ho19) hb); have n3_ := Aside0.mk (Kd.R_lower (Kd.R_new' (Kd.R_new' (Kd.R_new' ho19 (Kd.R_lt (by (with_reducible repeat (first | apply Kd.R_alloc | apply Kd.R_drewN | apply Kd.R_drew)); exact HO_7.out))) (Kd.R_lt (by (with_reducible repeat (first | apply Kd.R_alloc | apply Kd.R_drewN | apply Kd.R_drew)); exact HO_8.out))) (Kd.R_lt (by (with_reducible repeat (first | apply Kd.R_alloc | apply Kd.R_drewN | apply Kd.R_drew)); exact HO518.out))) (below_size (by repeat (first | (with_reducible first | exact HB.out | apply below_alloc | apply pw_below_drewN | apply below_drew1) | exact HB.out)))); have n4_ := Aside0.mk (below_step (by repeat (first | (with_reducible first | exact HB.out | apply below_alloc | apply pw_below_drewN | apply below_drew1) | exact HB.out)) hb); clear HO_7; clear HO_8; clear HO518; clear HB; have HO_7 := n0_; have HO_8 := n1_; have HO518 := n2_; have HO522 := n3_; have HB := n4_; clear n0_ n1_ n2_ n3_ n4_; clear hb ho19; obtain ⟨Ao20, co20, eo20⟩ := Kd.R_slice HO518.out; subst eo20; obtain ⟨Ao21, co21, eo21⟩ := Kd.R_slice HO522.out; subst eo21) | ((with_reducible refine gate_callee (f := 37) rfl ?_); refine goesL_ (some 29) rfl rfl Try.func37 (by kernel_rfl) rfl #[.slice Ao20 t516.length co20, .slice Ao21 y520.length co21] rfl (by (try simp only [List.map_toArray, List.map_cons, List.map_nil]); first | done | rfl | (simp only [List.length_drop, List.length_take]; rfl)) ?_; (with_reducible refine (sibylref01_Plus.calls k1 _ _ t516 _ _ y520 t523 _ ?side1 ?side2 ?side3 ?side4 A17.out).mono ?_); (case side1 => repeat (first | exact (Kd.R_reads' HO518.out).2.2 | (with_reducible refine Kd.C_alloc ?_ _) | (with_reducible refine Kd.C_drewN ?_ _) | (with_reducible refine Kd.C_drew ?_))); (case side2 => exact (Kd.R_reads' HO518.out).2.1); (case side3 => repeat (first | exact (Kd.R_reads' HO522.out).2.2 | (with_reducible refine Kd.C_alloc ?_ _) | (with_reducible refine Kd.C_drewN ?_ _) | (with_reducible refine Kd.C_drew ?_))); (case side4 => exact (Kd.R_reads' HO522.out).2.1); rintro e w22 ⟨v524, rfl, ho0, hb⟩; refine ⟨_, rfl, ?_⟩; have n0_ := Aside0.mk (Kd.R_elder' (by (with_reducible repeat (first | apply Kd.R_alloc | apply Kd.R_drewN | apply Kd.R_drew)); exact HO_7.out) (Kd.R_base ho0) hb); have n1_ := Aside0.mk (Kd.R_elder' (by (with_reducible repeat (first | apply Kd.R_alloc | apply Kd.R_drewN | apply Kd.R_drew)); exact HO_8.out) (Kd.R_base ho0) hb); have n2_ := Aside0.mk (Kd.R_elder' (by (with_reducible repeat (first | apply Kd.R_alloc | apply Kd.R_drewN | apply Kd.R_drew)); exact HO518.out) (Kd.R_base ho0) hb); have n3_ := Aside0.mk (Kd.R_elder' (by (with_reducible repeat (first | apply Kd.R_alloc | apply Kd.R_drewN | apply Kd.R_drew)); exact HO522.out) (Kd.R_base ho0) hb); have n4_ := Aside0.mk (Kd.R_lower (Kd.R_new' (Kd.R_new' (Kd.R_new' (Kd.R_new' ho0 (Kd.R_lt (by (with_reducible repeat (first | apply Kd.R_alloc | apply Kd.R_drewN | apply Kd.R_drew)); exact HO_7.out))) (Kd.R_lt (by (with_reducible repeat (first | apply Kd.R_alloc | apply Kd.R_drewN | apply Kd.R_drew)); exact HO_8.out))) (Kd.R_lt (by (with_reducible repeat (first | apply Kd.R_alloc | apply Kd.R_drewN | apply Kd.R_drew)); exact HO518.out))) (Kd.R_lt (by (with_reducible repeat (first | apply Kd.R_alloc | apply Kd.R_drewN | apply Kd.R_drew)); exact HO522.out))) (below_size (by repeat (first | (with_reducible first | exact HB.out | apply below_alloc | apply pw_below_drewN | apply below_drew1) | exact HB.out)))); have n5_ := Aside0.mk (below_step (by repeat (first | (with_reducible first | exact HB.out | apply below_alloc | apply pw_below_drewN | apply below_drew1) | exact HB.out)) hb); clear HO_7; clear HO_8; clear HO518; clear HO522; clear HB; have HO_7 := n0_; have HO_8 := n1_; have HO518 := n2_; have HO522 := n3_; have HO525 := n4_; have HB := n5_; clear n0_ n1_ n2_ n3_ n4_ n5_; (try clear hb); (try clear hb2); (try clear hk); (try clear hi); (try clear ho0)))
                go_meet
                case rel => exact ⟨_, (t523), H', ⟨by have := HK1.out; first | omega | exact Nat.le_refl _⟩, ⟨by (with_reducible repeat (first | apply Kd.R_alloc | apply Kd.R_drewN | apply Kd.R_drew)); exact Kd.R_mono HO_7.out (fun _ hk => hk.2)⟩, ⟨by (with_reducible repeat (first | apply Kd.R_alloc | apply Kd.R_drewN | apply Kd.R_drew)); exact Kd.R_mono HO525.out (fun _ hk => hk.1.1.1.2)⟩, ⟨by repeat (first | (with_reducible first | exact HB.out | apply below_alloc | apply pw_below_drewN | apply below_drew1) | exact HB.out)⟩⟩
              · replace c16 := Bool.eq_false_iff.mpr c16
                subst c16
                have H1 : (sibylref01_Divide.j1 k1 l0 l1 x7_1 t516 x9_1) = some (r1, r2) := by rw [if_neg (show ¬ (false = true) by decide)] at H; exact H
                clear H
                have H := H1
                clear H1
                have H' := Aside0.mk H
                clear H
                go_wp2
                go_meet
                case rel => exact ⟨_, (t516), H', ⟨by have := HK1.out; first | omega | exact Nat.le_refl _⟩, ⟨by (with_reducible repeat (first | apply Kd.R_alloc | apply Kd.R_drewN | apply Kd.R_drew)); exact Kd.R_mono HO_7.out (fun _ hk => hk.2)⟩, ⟨by (with_reducible repeat (first | apply Kd.R_alloc | apply Kd.R_drewN | apply Kd.R_drew)); exact Kd.R_mono HO518.out (fun _ hk => hk.1.2)⟩, ⟨by repeat (first | (with_reducible first | exact HB.out | apply below_alloc | apply pw_below_drewN | apply below_drew1) | exact HB.out)⟩⟩
            case rest =>
              clear HC13
              try clear c1
              try clear c2
              try clear p2
              try clear c3
              try clear c5
              try clear c5b0
              try clear c5b1
              try clear c6
              try clear c6b0
              try clear c6b1
              try clear p6
              try clear c8
              try clear c10
              try clear c10b0
              try clear c16
              try clear p2
              try clear p6
              obtain ⟨kq, x8_12, HA, HJ12, HO_7, HO_8, HB⟩ := hcut
              cases kq with
              | zero => exact absurd HA.out (by simp [sibylref01_Divide.j1])
              | succ kj12 =>
                have H := HA.out
                clear HA
                simp only [sibylref01_Divide.j1] at H
                replace H := Option.bind_eq_some_iff.mp H
                obtain ⟨t526, A230, H⟩ := H
                replace H : (if t526 ≥ 0 then ((sibylref01_Minus.f kj12 x8_12 l1).bind fun t527 => (if 0 ≤ (wrap64 (Int.tdiv x9_1 32)) then (if (wrap64 (Int.tdiv x9_1 32)) < (x7_1.length : Int) then (if 0 ≤ (IntKind.u64.wrap (Int.tmod x9_1 32)) then (sibylref01_Divide.l0 kj12 l0 l1 (x7_1.set ((wrap64 (Int.tdiv x9_1 32)) : Int).toNat (((rd x7_1 (wrap64 (Int.tdiv x9_1 32))) + (shl .u32 1 (IntKind.u64.wrap (Int.tmod x9_1 32)))) % 4294967296)) t527 (wrap64 (x9_1 - 1))) else (none)) else (none)) else (none))) else (sibylref01_Divide.l0 kj12 l0 l1 x7_1 x8_12 (wrap64 (x9_1 - 1)))) = some (r1, r2) := H
                have A23 := Aside0.mk A230
                clear A230
                by_cases c24 : t526 ≥ 0
                · rw [if_pos c24] at H
                  have c24b0 : decide (0 ≤ t526) = true := decide_eq_true c24
                  clear c24
                  replace H := Option.bind_eq_some_iff.mp H
                  obtain ⟨t527, A250, H⟩ := H
                  replace H : (if 0 ≤ (wrap64 (Int.tdiv x9_1 32)) then (if (wrap64 (Int.tdiv x9_1 32)) < (x7_1.length : Int) then (if 0 ≤ (IntKind.u64.wrap (Int.tmod x9_1 32)) then (sibylref01_Divide.l0 kj12 l0 l1 (x7_1.set ((wrap64 (Int.tdiv x9_1 32)) : Int).toNat (((rd x7_1 (wrap64 (Int.tdiv x9_1 32))) + (shl .u32 1 (IntKind.u64.wrap (Int.tmod x9_1 32)))) % 4294967296)) t527 (wrap64 (x9_1 - 1))) else (none)) else (none)) else (none)) = some (r1, r2) := H
                  have A25 := Aside0.mk A250
                  clear A250
                  obtain ⟨ji26, hji26⟩ : ∃ j_ : Int, (wrap64 (Int.tdiv x9_1 32)) = j_ := ⟨_, rfl⟩
                  replace H : (if 0 ≤ (ji26) then (if (ji26) < (x7_1.length : Int) then (if 0 ≤ (IntKind.u64.wrap (Int.tmod x9_1 32)) then (sibylref01_Divide.l0 kj12 l0 l1 (x7_1.set ((ji26) : Int).toNat (((rd x7_1 (ji26)) + (shl .u32 1 (IntKind.u64.wrap (Int.tmod x9_1 32)))) % 4294967296)) t527 (wrap64 (x9_1 - 1))) else (none)) else (none)) else (none)) = some (r1, r2) := by first | (rw [hji26] at H; exact H) | (simp only [hji26] at H ⊢; exact H)
                  (try rw [hji26] at A23)
                  (try rw [hji26] at A25)
                  have hji26w : (IntKind.i64.wrap (Int.tdiv x9_1 32)) = ji26 := (i64_w _).trans hji26
                  by_cases c27 : 0 ≤ (ji26)
                  · rw [if_pos c27] at H
                    have c27b0 : decide (0 ≤ (ji26)) = true := decide_eq_true c27
                    clear c27
                    by_cases c28 : (ji26) < (x7_1.length : Int)
                    · rw [if_pos c28] at H
                      have c28b0 : decide ((ji26) < (x7_1.length : Int)) = true := decide_eq_true c28
                      clear c28
                      by_cases c29 : 0 ≤ (IntKind.u64.wrap (Int.tmod x9_1 32))
                      · rw [if_pos c29] at H
                        have c29b0 := eq_true c29
                        have c29b1 : decide (0 ≤ (IntKind.u64.wrap (Int.tmod x9_1 32))) = true := decide_eq_true c29
                        clear c29
                        obtain ⟨ji30, hji30⟩ : ∃ j_ : Int, (shl .u32 1 (IntKind.u64.wrap (Int.tmod x9_1 32))) = j_ := ⟨_, rfl⟩
                        replace H : (sibylref01_Divide.l0 kj12 l0 l1 (x7_1.set ((ji26) : Int).toNat (((rd x7_1 (ji26)) + (ji30)) % 4294967296)) t527 (wrap64 (x9_1 - 1))) = some (r1, r2) := by first | (rw [hji30] at H; exact H) | (simp only [hji30] at H ⊢; exact H)
                        (try rw [hji30] at A23)
                        (try rw [hji30] at A25)
                        have hji30_ : (IntKind.u32.wrap (1 * 2 ^ min (IntKind.u64.wrap (Int.tmod x9_1 32)).toNat 32)) = ji30 := hji30
                        have hji30z : (IntKind.u64.wrap (Int.tmod x9_1 32)) ≤ 32 → (IntKind.u32.wrap (1 * 2 ^ (IntKind.u64.wrap (Int.tmod x9_1 32)).toNat)) = ji30 := shl_small hji30
                        have hji30u : (IntKind.u32.wrap (2 ^ min (IntKind.u64.wrap (Int.tmod x9_1 32)).toNat 32)) = ji30 := by have h_ := hji30_; rw [Int.one_mul] at h_; exact h_
                        have hji30v : (IntKind.u64.wrap (Int.tmod x9_1 32)) ≤ 32 → (IntKind.u32.wrap (2 ^ (IntKind.u64.wrap (Int.tmod x9_1 32)).toNat)) = ji30 := fun hle_ => by have h_ := hji30z hle_; rw [Int.one_mul] at h_; exact h_
                        obtain ⟨y531, hy531⟩ : ∃ y_ : List Int, y_ = (x7_1.set ((ji26) : Int).toNat (((rd x7_1 (ji26)) + (ji30)) % 4294967296)) := ⟨_, rfl⟩
                        replace H : (sibylref01_Divide.l0 kj12 l0 l1 y531 t527 (wrap64 (x9_1 - 1))) = some (r1, r2) := by first | (rw [hy531]; with_reducible exact H) | (have H2_ := (Option.bind_some _ _).symm.trans H; rw [hy531]; with_reducible exact H2_) | (have H2_ := (Option.bind_some _ _).symm.trans H; with_reducible exact H2_) | with_reducible exact H | (rw [hy531]; exact H) | exact H
                        have Ny531 := Aside0.mk hy531
                        clear hy531
                        have H' := Aside0.mk H
                        clear H
                        obtain ⟨Ao32, co32, eo32⟩ := Kd.R_slice HO_8.out
                        subst eo32
                        go_wp2_with (first | ((with_reducible refine gate_callee (f := 36) rfl ?_); refine goesL_ (some 32) rfl rfl Try.func36 (by kernel_rfl) rfl #[.slice Ao32 x8_12.length co32, .slice A1 l1.length c1] rfl (by (try simp only [List.map_toArray, List.map_cons, List.map_nil]); first | done | rfl | (simp only [List.length_drop, List.length_take]; rfl)) ?_; (with_reducible refine (sibylref01_Cmp.calls kj12 _ _ x8_12 _ _ l1 t526 _ ?side1 ?side2 ?side3 ?side4 A23.out).mono ?_); (case side1 => repeat (first | exact (Kd.R_reads' HO_8.out).2.2 | (with_reducible refine Kd.C_alloc ?_ _) | (with_reducible refine Kd.C_drewN ?_ _) | (with_reducible refine Kd.C_drew ?_))); (case side2 => exact (Kd.R_reads' HO_8.out).2.1); (case side3 => repeat (first | exact (Kd.C_below HR1.out HB.out) | (with_reducible refine Kd.C_alloc ?_ _) | (with_reducible refine Kd.C_drewN ?_ _) | (with_reducible refine Kd.C_drew ?_))); (case side4 => exact HC1.out); rintro e w33 ⟨rfl, hb⟩; refine ⟨_, rfl, ?_⟩; have n0_ := Aside0.mk (Kd.R_below (by (with_reducible repeat (first | apply Kd.R_alloc | apply Kd.R_drewN | apply Kd.R_drew)); exact HO_7.out) hb); have n1_ := Aside0.mk (Kd.R_below (by (with_reducible repeat (first | apply Kd.R_alloc | apply Kd.R_drewN | apply Kd.R_drew)); exact HO_8.out) hb); have n2_ := Aside0.mk (below_step (by repeat (first | (with_reducible first | exact HB.out | apply below_alloc | apply pw_below_drewN | apply below_drew1) | exact HB.out)) hb); clear HO_7; clear HO_8; clear HB; have HO_7 := n0_; have HO_8 := n1_; have HB := n2_; clear n0_ n1_ n2_; (try clear hb); (try clear hb2); (try clear hk); (try clear hi)) | ((with_reducible refine gate_callee (f := 45) rfl ?_); refine goesL_ (some 36) rfl rfl Try.func45 (by kernel_rfl) rfl #[.slice Ao32 x8_12.length co32, .slice A1 l1.length c1] rfl (by (try simp only [List.map_toArray, List.map_cons, List.map_nil]); first | done | rfl | (simp only [List.length_drop, List.length_take]; rfl)) ?_; (with_reducible refine (sibylref01_Minus.calls kj12 _ _ x8_12 _ _ l1 t527 _ ?side1 ?side2 ?side3 ?side4 A25.out).mono ?_); (case side1 => repeat (first | exact (Kd.R_reads' HO_8.out).2.2 | (with_reducible refine Kd.C_alloc ?_ _) | (with_reducible refine Kd.C_drewN ?_ _) | (with_reducible refine Kd.C_drew ?_))); (case side2 => exact (Kd.R_reads' HO_8.out).2.1); (case side3 => repeat (first | exact (Kd.C_below HR1.out HB.out) | (with_reducible refine Kd.C_alloc ?_ _) | (with_reducible refine Kd.C_drewN ?_ _) | (with_reducible refine Kd.C_drew ?_))); (case side4 => exact HC1.out); rintro e w34 ⟨v528, rfl, ho0, hb⟩; refine ⟨_, rfl, ?_⟩; have n0_ := Aside0.mk (Kd.R_elder' (by (with_reducible repeat (first | apply Kd.R_alloc | apply Kd.R_drewN | apply Kd.R_drew)); exact HO_7.out) (Kd.R_base ho0) hb); have n1_ := Aside0.mk (Kd.R_elder' (by (with_reducible repeat (first | apply Kd.R_alloc | apply Kd.R_drewN | apply Kd.R_drew)); exact HO_8.out) (Kd.R_base ho0) hb); have n2_ := Aside0.mk (Kd.R_lower (Kd.R_new' (Kd.R_new' ho0 (Kd.R_lt (by (with_reducible repeat (first | apply Kd.R_alloc | apply Kd.R_drewN | apply Kd.R_drew)); exact HO_7.out))) (Kd.R_lt (by (with_reducible repeat (first | apply Kd.R_alloc | apply Kd.R_drewN | apply Kd.R_drew)); exact HO_8.out))) (below_size (by repeat (first | (with_reducible first | exact HB.out | apply below_alloc | apply pw_below_drewN | apply below_drew1) | exact HB.out)))); have n3_ := Aside0.mk (below_step (by repeat (first | (with_reducible first | exact HB.out | apply below_alloc | apply pw_below_drewN | apply below_drew1) | exact HB.out)) hb); clear HO_7; clear HO_8; clear HB; have HO_7 := n0_; have HO_8 := n1_; have HO529 := n2_; have HB := n3_; clear n0_ n1_ n2_ n3_; (try clear hb); (try clear hb2); (try clear hk); (try clear hi); (try clear ho0); obtain ⟨Ao35, co35, eo35⟩ := Kd.R_slice HO_7.out; subst eo35; have p530 : 0 ≤ ((ji26) : Int) := of_decide_eq_true (by first | (with_reducible assumption) | assumption); have q530 : (ji26) < (x7_1.length : Int) := of_decide_eq_true (by first | (with_reducible assumption) | assumption); obtain ⟨ad530, e530, hx530_0⟩ := Kd.at_int (Kd.R_reads' HO_7.out).2.2 (ji26) p530 q530; cases e530; replace p530 := eq_true p530; replace q530 := eq_true q530; have p31 : 0 ≤ ((ji26) : Int) := of_decide_eq_true (by first | (with_reducible assumption) | assumption); have q31 : ((ji26) : Int) < ((x7_1.length : Int) : Int) := of_decide_eq_true (by first | (with_reducible assumption) | assumption); obtain ⟨go31, co31, eo31, gb31, gl31, cl31, HG31⟩ := Kd.R_form HO_7.out (by omega); (first | cases eo31 | (injection eo31 with ea_ en_ ec_; (first | subst ea_ | (injection ea_ with ea_; subst ea_)); subst ec_; clear en_)); have GB31 := Aside0.mk gb31; have GG31 := Aside0.mk HG31; clear gb31 gl31 HG31; (first | simp only [add_plain] at hx530_0 | skip); obtain ⟨hx31_0, hf31_0⟩ := Kd.R_celln 0 HO_7.out ((ji26) : Int) p31 q31; replace p31 := eq_true p31; replace q31 := eq_true q31; obtain ⟨hy36_, hz36_⟩ := Kd.R_celln 0 HO_7.out ((ji26) : Int) (of_decide_eq_true (by first | (with_reducible assumption) | assumption)) (of_decide_eq_true (by first | (with_reducible assumption) | assumption)); have HP36 := Kd.R_putg HO_7.out ((ji26) : Int) (((rd x7_1 (ji26)) + (ji30)) % 4294967296)) | ((with_reducible refine gate_store (t := 47) (p := 47) rfl ?_); refine store_event (t := 47) (p := 47) (v := ?vo_w37) (w1 := (w34.setCell ⟨go31, ((ji26) : Int).toNat, none⟩ (.int .u32 (((rd x7_1 (ji26)) + (ji30)) % 4294967296)))) ?hg ?ho ?hn ?hr ?_; (case ho => rfl); (case hg => rfl); (case hn => rfl); (case hr => first | (go_simp; done) | (go_simp; rfl)); intro w37 hw; have hg : w34.grownBy w37 (some go31) := (by rw [hw]; exact HP36.2); have hp_ : Kd.R (Kd.int .u32) 47 w37 w.heap.size (fun k_ => some k_ ≠ (.slice Ao32 x8_12.length co32 : Value).ownBlock ∧ some k_ ≠ (v528 : Value).ownBlock) (.slice (some ⟨go31, 0, none⟩) x7_1.length co35) y531 := (by rw [hw, Ny531.out]; exact HP36.1); clear HP36; have n0_ := Aside0.mk (hp_); have n1_ := Aside0.mk (Kd.R_after (v := (.slice (some ⟨go31, 0, none⟩) x7_1.length co35)) (v1 := (.slice (some ⟨go31, 0, none⟩) x7_1.length co35)) (ok := (fun k_ => some k_ ≠ (v528 : Value).ownBlock)) (by (with_reducible repeat (first | apply Kd.R_alloc | apply Kd.R_drewN | apply Kd.R_drew)); exact Kd.R_mono HO_8.out (fun _ hk => ⟨hk.2, hk.1⟩)) hg (.inl rfl)); have n2_ := Aside0.mk (Kd.R_after (v := (.slice (some ⟨go31, 0, none⟩) x7_1.length co35)) (v1 := (.slice (some ⟨go31, 0, none⟩) x7_1.length co35)) (ok := (fun k_ => some k_ ≠ (.slice Ao32 x8_12.length co32 : Value).ownBlock)) (by (with_reducible repeat (first | apply Kd.R_alloc | apply Kd.R_drewN | apply Kd.R_drew)); exact Kd.R_mono HO529.out (fun _ hk => ⟨hk.2, hk.1.2⟩)) hg (.inl rfl)); have n3_ := Aside0.mk ((by rw [hw]; exact below_set (HB.out) GB31.out : Below w.heap.size w w37)); clear HO_7; clear HO_8; clear HO529; clear HB; have HO_7 := n0_; have HO_8 := n1_; have HO529 := n2_; have HB := n3_; clear n0_ n1_ n2_ n3_; clear hg hw hp_))
                        go_roundg kj12
                        case measure => have := HK1.out; have := HJ12.out; omega
                        case rel => exact ⟨(y531), (t527), (wrap64 (x9_1 - 1)), (by first | rfl | (simp; done) | (simp [*]; done)), H', ⟨by have := HK1.out; have := HJ12.out; omega⟩, ⟨by (with_reducible repeat (first | apply Kd.R_alloc | apply Kd.R_drewN | apply Kd.R_drew)); exact Kd.R_mono HO_7.out (fun _ hk => hk.2)⟩, ⟨by (with_reducible repeat (first | apply Kd.R_alloc | apply Kd.R_drewN | apply Kd.R_drew)); exact Kd.R_mono HO529.out (fun _ hk => hk.2)⟩, ⟨by repeat (first | (with_reducible first | exact HB.out | apply below_alloc | apply pw_below_drewN | apply below_drew1) | exact HB.out)⟩⟩
                      · rw [if_neg c29] at H
                        exact absurd H (by simp)
                    · rw [if_neg c28] at H
                      exact absurd H (by simp)
                  · rw [if_neg c27] at H
                    exact absurd H (by simp)
                · rw [if_neg c24] at H
                  have c24b0 : decide (0 ≤ t526) = false := decide_eq_false c24
                  clear c24
                  have H' := Aside0.mk H
                  clear H
                  obtain ⟨Ao38, co38, eo38⟩ := Kd.R_slice HO_8.out
                  subst eo38
                  go_wp2_with (first | ((with_reducible refine gate_callee (f := 36) rfl ?_); refine goesL_ (some 32) rfl rfl Try.func36 (by kernel_rfl) rfl #[.slice Ao38 x8_12.length co38, .slice A1 l1.length c1] rfl (by (try simp only [List.map_toArray, List.map_cons, List.map_nil]); first | done | rfl | (simp only [List.length_drop, List.length_take]; rfl)) ?_; (with_reducible refine (sibylref01_Cmp.calls kj12 _ _ x8_12 _ _ l1 t526 _ ?side1 ?side2 ?side3 ?side4 A23.out).mono ?_); (case side1 => repeat (first | exact (Kd.R_reads' HO_8.out).2.2 | (with_reducible refine Kd.C_alloc ?_ _) | (with_reducible refine Kd.C_drewN ?_ _) | (with_reducible refine Kd.C_drew ?_))); (case side2 => exact (Kd.R_reads' HO_8.out).2.1); (case side3 => repeat (first | exact (Kd.C_below HR1.out HB.out) | (with_reducible refine Kd.C_alloc ?_ _) | (with_reducible refine Kd.C_drewN ?_ _) | (with_reducible refine Kd.C_drew ?_))); (case side4 => exact HC1.out); rintro e w39 ⟨rfl, hb⟩; refine ⟨_, rfl, ?_⟩; have n0_ := Aside0.mk (Kd.R_below (by (with_reducible repeat (first | apply Kd.R_alloc | apply Kd.R_drewN | apply Kd.R_drew)); exact HO_7.out) hb); have n1_ := Aside0.mk (Kd.R_below (by (with_reducible repeat (first | apply Kd.R_alloc | apply Kd.R_drewN | apply Kd.R_drew)); exact HO_8.out) hb); have n2_ := Aside0.mk (below_step (by repeat (first | (with_reducible first | exact HB.out | apply below_alloc | apply pw_below_drewN | apply below_drew1) | exact HB.out)) hb); clear HO_7; clear HO_8; clear HB; have HO_7 := n0_; have HO_8 := n1_; have HB := n2_; clear n0_ n1_ n2_; (try clear hb); (try clear hb2); (try clear hk); (try clear hi)))
                  go_roundg kj12
                  case measure => have := HK1.out; have := HJ12.out; omega
                  case rel => exact ⟨(x7_1), (x8_12), (wrap64 (x9_1 - 1)), (by first | rfl | (simp; done) | (simp [*]; done)), H', ⟨by have := HK1.out; have := HJ12.out; omega⟩, ⟨by (with_reducible repeat (first | apply Kd.R_alloc | apply Kd.R_drewN | apply Kd.R_drew)); exact HO_7.out⟩, ⟨by (with_reducible repeat (first | apply Kd.R_alloc | apply Kd.R_drewN | apply Kd.R_drew)); exact HO_8.out⟩, ⟨by repeat (first | (with_reducible first | exact HB.out | apply below_alloc | apply pw_below_drewN | apply below_drew1) | exact HB.out)⟩⟩
          · rw [if_neg c10] at H
            have c10b0 : decide (0 ≤ x9_1) = false := decide_eq_false c10
            clear c10
            replace H := Option.bind_eq_some_iff.mp H
            obtain ⟨t513, A400, H⟩ := H
            replace H : (some (t513, x8_1)) = some (r1, r2) := H
            have A40 := Aside0.mk A400
            clear A400
            simp only [Option.some.injEq, Prod.mk.injEq] at H
            obtain ⟨rfl, rfl⟩ := H
            obtain ⟨Ao41, co41, eo41⟩ := Kd.R_slice HO_7.out
            subst eo41
            go_wp2_with (first | ((with_reducible refine gate_callee (f := 46) rfl ?_); refine goesL_ (some 49) rfl rfl Try.func46 (by kernel_rfl) rfl #[.slice Ao41 x7_1.length co41] rfl (by (try simp only [List.map_toArray, List.map_cons, List.map_nil]); first | done | rfl | (simp only [List.length_drop, List.length_take]; rfl)) ?_; (with_reducible refine (sibylref01_Trim.calls k1 _ _ x7_1 t513 _ ?side1 ?side2 A40.out).mono ?_); (case side1 => repeat (first | exact (Kd.R_reads' HO_7.out).2.2 | (with_reducible refine Kd.C_alloc ?_ _) | (with_reducible refine Kd.C_drewN ?_ _) | (with_reducible refine Kd.C_drew ?_))); (case side2 => exact (Kd.R_reads' HO_7.out).2.1); rintro e w42 ⟨v514, rfl, ho0, hb⟩; refine ⟨_, rfl, ?_⟩; have n0_ := Aside0.mk (Kd.R_elder' (by (with_reducible repeat (first | apply Kd.R_alloc | apply Kd.R_drewN | apply Kd.R_drew)); exact HO_7.out) (Kd.R_base ho0) hb); have n1_ := Aside0.mk (Kd.R_elder' (by (with_reducible repeat (first | apply Kd.R_alloc | apply Kd.R_drewN | apply Kd.R_drew)); exact HO_8.out) (Kd.R_base ho0) hb); have n2_ := Aside0.mk (Kd.R_lower (Kd.R_new' (Kd.R_new' ho0 (Kd.R_lt (by (with_reducible repeat (first | apply Kd.R_alloc | apply Kd.R_drewN | apply Kd.R_drew)); exact HO_7.out))) (Kd.R_lt (by (with_reducible repeat (first | apply Kd.R_alloc | apply Kd.R_drewN | apply Kd.R_drew)); exact HO_8.out))) (below_size (by repeat (first | (with_reducible first | exact HB.out | apply below_alloc | apply pw_below_drewN | apply below_drew1) | exact HB.out)))); have n3_ := Aside0.mk (below_step (by repeat (first | (with_reducible first | exact HB.out | apply below_alloc | apply pw_below_drewN | apply below_drew1) | exact HB.out)) hb); clear HO_7; clear HO_8; clear HB; have HO_7 := n0_; have HO_8 := n1_; have HO515 := n2_; have HB := n3_; clear n0_ n1_ n2_ n3_; (try clear hb); (try clear hb2); (try clear hk); (try clear hi); (try clear ho0)))
            go_ret2
            exact ⟨_, _, by first | rfl | (simp [errW_none, errW_some] <;> rfl) | (simp only [← hji4]; first | rfl | (simp [errW_none, errW_some] <;> rfl)) | (simp [*, errW_none, errW_some] <;> rfl), by (with_reducible repeat (first | apply Kd.R_alloc | apply Kd.R_drewN | apply Kd.R_drew)); exact Kd.R_mono HO515.out (fun _ hk => hk.2), by (with_reducible repeat (first | apply Kd.R_alloc | apply Kd.R_drewN | apply Kd.R_drew)); exact Kd.R_mono HO_8.out (fun _ hk => hk.2), by repeat (first | (with_reducible first | exact HB.out | apply below_alloc | apply pw_below_drewN | apply below_drew1) | exact HB.out)⟩
    · rw [if_neg c6] at H
      exact absurd H (by simp)
  · rw [if_neg c5] at H
    exact absurd H (by simp)
end Go.Proofs.Ytgffficaoioljaa.P
end
section
namespace Go.Proofs.Ytgffficaoioljaa.P
open Go.RowKit Go.Proofs.YtgffficaoioljaaW.PrintWords Go.Proofs.YtgffficaoioljaaW.PrintLast Go.Proofs.YtgffficaoioljaaW.PrintMore
attribute [local go_sem] max2_int min2_int max_two min_two max_three min_three max_four min_four
set_option linter.unusedVariables false
set_option linter.unusedSimpArgs false
def bits_Sub32.f (a0 : Int) (a1 : Int) (a2 : Int) : Option (Int × Int) := some ((((a0 - a1) % 4294967296) - a2) % 4294967296, (Go.bits .or .u32 (Go.bits .and .u32 (Go.bits .xor .u32 4294967295 a0) a1) (Go.bits .and .u32 (Go.bits .xor .u32 4294967295 (Go.bits .xor .u32 a0 a1)) ((((a0 - a1) % 4294967296) - a2) % 4294967296))) / 2147483648)
end Go.Proofs.Ytgffficaoioljaa.P
end
section
namespace Go.Proofs.Ytgffficaoioljaa.P
open Go.RowKit Go.Proofs.YtgffficaoioljaaW.PrintWords Go.Proofs.YtgffficaoioljaaW.PrintLast Go.Proofs.YtgffficaoioljaaW.PrintMore
attribute [local go_sem] max2_int min2_int max_two min_two max_three min_three max_four min_four
set_option linter.unusedVariables false
set_option linter.unusedSimpArgs false
def nats_Sub.l0 : Nat → List Int → List Int → List Int → Int → Int → Int → Option (List Int)
  | 0, _, _, _, _, _, _ => none
  | k + 1, x0, x1, x5, x6, x17, x18 => if x18 < x17 then (if x18 < (x1.length : Int) then (if 0 ≤ x18 then (if x18 < (x0.length : Int) then ((bits_Sub32.f (rd x0 x18) (rd x1 x18) x6).bind fun bt862 => (if x18 < (x5.length : Int) then (nats_Sub.l0 k x0 x1 (x5.set (x18 : Int).toNat bt862.1) bt862.2 x17 (wrap64 (x18 + 1))) else (none))) else (none)) else (none)) else (if 0 ≤ x18 then (if x18 < (x0.length : Int) then ((bits_Sub32.f (rd x0 x18) 0 x6).bind fun bt866 => (if x18 < (x5.length : Int) then (nats_Sub.l0 k x0 x1 (x5.set (x18 : Int).toNat bt866.1) bt866.2 x17 (wrap64 (x18 + 1))) else (none))) else (none)) else (none))) else ((nats_cuto.f k x5).bind fun t869 => (some t869))
def nats_Sub.f (k : Nat) (l0 : List Int) (l1 : List Int) : Option (List Int) := (nats_cut.f k l0).bind fun t851 => ((nats_cut.f k l1).bind fun t854 => (if 0 ≤ (t851.length : Int) then (if ((t851.length : Int) : Int).toNat ≤ 70368744177664 then (nats_Sub.l0 k t851 t854 (List.replicate ((t851.length : Int) : Int).toNat 0) 0 (t851.length : Int) 0) else (none)) else (none)))
end Go.Proofs.Ytgffficaoioljaa.P
end
section
namespace Go.Proofs.Ytgffficaoioljaa.P
open Go.RowKit Go.Proofs.YtgffficaoioljaaW.PrintWords Go.Proofs.YtgffficaoioljaaW.PrintLast Go.Proofs.YtgffficaoioljaaW.PrintMore
attribute [local go_sem] max2_int min2_int max_two min_two max_three min_three max_four min_four
set_option linter.unusedVariables false
set_option linter.unusedSimpArgs false
def sibylref01_Fit.f (k : Nat) (l0 : List Int) : Option (List Int × Int) := (sibylref01_Trim.f k l0).bind fun t406 => (if (t406.length : Int) > 16 then (some (([] : List Int), 4)) else (some (t406, 0)))
end Go.Proofs.Ytgffficaoioljaa.P
end
section
namespace Go.Proofs.Ytgffficaoioljaa.P
open Go.RowKit Go.Proofs.YtgffficaoioljaaW.PrintWords Go.Proofs.YtgffficaoioljaaW.PrintLast Go.Proofs.YtgffficaoioljaaW.PrintMore
attribute [local go_sem] max2_int min2_int max_two min_two max_three min_three max_four min_four
set_option linter.unusedVariables false
set_option linter.unusedSimpArgs false
mutual
def sibylref01_Times.l0 : Nat → List Int → List Int → List Int → Int → Option (List Int)
  | 0, _, _, _, _ => none
  | k + 1, x5, x6, x7, x8 => if x8 < (x5.length : Int) then (sibylref01_Times.l1 k x5 x6 x7 x8 0 0) else ((sibylref01_Trim.f k x7).bind fun t418 => (some t418))
def sibylref01_Times.l1 : Nat → List Int → List Int → List Int → Int → Int → Int → Option (List Int)
  | 0, _, _, _, _, _, _ => none
  | k + 1, x5, x6, x7, x8, x9, x10 => if x10 < (x6.length : Int) then (if 0 ≤ (wrap64 (x8 + x10)) then (if (wrap64 (x8 + x10)) < (x7.length : Int) then (if 0 ≤ x8 then (if x8 < (x5.length : Int) then (if 0 ≤ x10 then (sibylref01_Times.l1 k x5 x6 (x7.set ((wrap64 (x8 + x10)) : Int).toNat ((Int.tmod (IntKind.u64.wrap (x9 + (IntKind.u64.wrap ((IntKind.u64.wrap (rd x7 (wrap64 (x8 + x10)))) + (IntKind.u64.wrap ((IntKind.u64.wrap (rd x5 x8)) * (IntKind.u64.wrap (rd x6 x10)))))))) 4294967296) % 4294967296)) x8 (IntKind.u64.wrap (Int.tdiv (IntKind.u64.wrap (x9 + (IntKind.u64.wrap ((IntKind.u64.wrap (rd x7 (wrap64 (x8 + x10)))) + (IntKind.u64.wrap ((IntKind.u64.wrap (rd x5 x8)) * (IntKind.u64.wrap (rd x6 x10)))))))) 4294967296)) (wrap64 (x10 + 1))) else (none)) else (none)) else (none)) else (none)) else (none)) else (if 0 ≤ (wrap64 (x8 + (x6.length : Int))) then (if (wrap64 (x8 + (x6.length : Int))) < (x7.length : Int) then (sibylref01_Times.l0 k x5 x6 (x7.set ((wrap64 (x8 + (x6.length : Int))) : Int).toNat ((x9) % 4294967296)) (wrap64 (x8 + 1))) else (none)) else (none))
end
def sibylref01_Times.f (k : Nat) (l0 : List Int) (l1 : List Int) : Option (List Int) := (sibylref01_Trim.f k l0).bind fun t409 => ((sibylref01_Trim.f k l1).bind fun t412 => (if 0 ≤ (wrap64 ((wrap64 ((t409.length : Int) + (t412.length : Int))) + 1)) then (if (wrap64 ((wrap64 ((t409.length : Int) + (t412.length : Int))) + 1) : Int).toNat ≤ 70368744177664 then (sibylref01_Times.l0 k t409 t412 (List.replicate (wrap64 ((wrap64 ((t409.length : Int) + (t412.length : Int))) + 1) : Int).toNat 0) 0) else (none)) else (none)))
end Go.Proofs.Ytgffficaoioljaa.P
end
section
namespace Go.Proofs.Ytgffficaoioljaa.P
open Go.RowKit Go.Proofs.YtgffficaoioljaaW.PrintWords Go.Proofs.YtgffficaoioljaaW.PrintLast Go.Proofs.YtgffficaoioljaaW.PrintMore
attribute [local go_sem] max2_int min2_int max_two min_two max_three min_three max_four min_four
set_option linter.unusedVariables false
set_option linter.unusedSimpArgs false
def limb_Sub.f (k : Nat) (l0 : List Int) (l1 : List Int) : Option (List Int × Int) := (nats_Cmp.f k l0 l1).bind fun t872 => (if t872 < 0 then (some (([] : List Int), 11)) else ((nats_Sub.f k l0 l1).bind fun t873 => ((limb_fit.f t873).bind fun bt876 => (some (bt876.1, bt876.2)))))
end Go.Proofs.Ytgffficaoioljaa.P
end
section
namespace Go.Proofs.Ytgffficaoioljaa.P
open Go.RowKit Go.Proofs.YtgffficaoioljaaW.PrintWords Go.Proofs.YtgffficaoioljaaW.PrintLast Go.Proofs.YtgffficaoioljaaW.PrintMore
attribute [local go_sem] max2_int min2_int max_two min_two max_three min_three max_four min_four
set_option linter.unusedVariables false
set_option linter.unusedSimpArgs false
def limb_Cmp.f (k : Nat) (l0 : List Int) (l1 : List Int) : Option (Int) := (nats_Cmp.f k l0 l1).bind fun t588 => (some t588)
end Go.Proofs.Ytgffficaoioljaa.P
end
section
namespace Go.Proofs.Ytgffficaoioljaa.P
open Go.RowKit Go.Proofs.YtgffficaoioljaaW.PrintWords Go.Proofs.YtgffficaoioljaaW.PrintLast Go.Proofs.YtgffficaoioljaaW.PrintMore
attribute [local go_sem] max2_int min2_int max_two min_two max_three min_three max_four min_four
set_option linter.unusedVariables false
set_option linter.unusedSimpArgs false
def limb_Norm.f (k : Nat) (l0 : List Int) : Option (List Int × Int) := (nats_Trim.f k l0).bind fun t624 => ((limb_fit.f t624).bind fun bt627 => (some (bt627.1, bt627.2)))
end Go.Proofs.Ytgffficaoioljaa.P
end
section
namespace Go.Proofs.Ytgffficaoioljaa.P
open Go.RowKit Go.Proofs.YtgffficaoioljaaW.PrintWords Go.Proofs.YtgffficaoioljaaW.PrintLast Go.Proofs.YtgffficaoioljaaW.PrintMore
attribute [local go_sem] max2_int min2_int max_two min_two max_three min_three max_four min_four
set_option linter.unusedVariables false
set_option linter.unusedSimpArgs false
def sibylref01_Form.f (l0 : List Int) : Option (Bool) := if (l0.length : Int) ≤ 16 then (if (l0.length : Int) = 0 then (some true) else (if 0 ≤ (wrap64 ((l0.length : Int) - 1)) then (if (wrap64 ((l0.length : Int) - 1)) < (l0.length : Int) then (some ((rd l0 (wrap64 ((l0.length : Int) - 1))) != 0)) else (none)) else (none))) else (some false)
end Go.Proofs.Ytgffficaoioljaa.P
end
