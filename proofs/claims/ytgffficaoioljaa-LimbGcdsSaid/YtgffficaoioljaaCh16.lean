import Derived.Test.YtgffficaoioljaaCh10
import Derived.Test.YtgffficaoioljaaCh13
import Derived.Test.YtgffficaoioljaaCh14
section
namespace Go.Proofs.Ytgffficaoioljaa.P
open Go.RowKit Go.Proofs.YtgffficaoioljaaW.PrintWords Go.Proofs.YtgffficaoioljaaW.PrintLast Go.Proofs.YtgffficaoioljaaW.PrintMore
attribute [local go_sem] max2_int min2_int max_two min_two max_three min_three max_four min_four
set_option linter.unusedVariables false
set_option linter.unusedSimpArgs false
def nats_QuoRem.l0 : Nat → Int → List Int → List Int → List Int → Int → Option (List Int × List Int)
  | 0, _, _, _, _, _ => none
  | k + 1, x8, x9, x10, x11, x12 => if x12 ≥ 0 then (if 0 ≤ x12 then (if x12 < (wrap64 ((wrap64 (x12 + (x9.length : Int))) + 1)) then (if (wrap64 ((wrap64 (x12 + (x9.length : Int))) + 1)) ≤ (x10.length : Int) then ((nats_digitat.f k x10 x12 (wrap64 ((wrap64 (x12 + (x9.length : Int))) + 1)) x9).bind fun bt258 => (if x12 < (x11.length : Int) then (nats_QuoRem.l0 k x8 x9 bt258.2 (x11.set (x12 : Int).toNat bt258.1) (wrap64 (x12 - 1))) else (none))) else (none)) else (none)) else (none)) else ((nats_cuto.f k x11).bind fun t261 => ((nats_Shr.f k x10 x8).bind fun t264 => (some (t261, t264))))
def nats_QuoRem.f (k : Nat) (l0 : List Int) (l1 : List Int) : Option (List Int × List Int) := (nats_cut.f k l0).bind fun t222 => ((nats_cut.f k l1).bind fun t225 => ((nats_Cmp.f k t222 t225).bind fun t228 => (if t228 < 0 then ((nats_Trim.f k t222).bind fun t229 => (some (([] : List Int), t229))) else (if (t225.length : Int) = 1 then (if 0 < (t225.length : Int) then ((nats_word.f k t222 (rd t225 0)).bind fun bt233 => ((nats_cuto.f k (([bt233.2] : List Int))).bind fun t240 => (some (bt233.1, t240)))) else (none)) else (if 0 ≤ (wrap64 ((t225.length : Int) - 1)) then (if (wrap64 ((t225.length : Int) - 1)) < (t225.length : Int) then ((bits_LeadingZeros32.f (rd t225 (wrap64 ((t225.length : Int) - 1)))).bind fun t244 => ((nats_Shl.f k t225 t244).bind fun t245 => (if 0 ≤ (wrap64 ((t222.length : Int) + 1)) then (if (wrap64 ((t222.length : Int) + 1) : Int).toNat ≤ 70368744177664 then ((some (List.replicate (wrap64 ((t222.length : Int) + 1) : Int).toNat 0 : List Int)).bind fun y248 => ((nats_Shl.f k t222 t244).bind fun t251 => (if 0 ≤ (wrap64 ((wrap64 ((t222.length : Int) - (t225.length : Int))) + 1)) then (if (wrap64 ((wrap64 ((t222.length : Int) - (t225.length : Int))) + 1) : Int).toNat ≤ 70368744177664 then ((some (List.replicate (wrap64 ((wrap64 ((t222.length : Int) - (t225.length : Int))) + 1) : Int).toNat 0 : List Int)).bind fun y255 => (nats_QuoRem.l0 k t244 t245 (t251.take y248.length ++ y248.drop t251.length) y255 (wrap64 ((y255.length : Int) - 1)))) else (none)) else (none)))) else (none)) else (none)))) else (none)) else (none))))))
theorem nats_QuoRem.mono_l : ∀ k, (∀ y0 y1 y2 y3 y4, LeO (nats_QuoRem.l0 k y0 y1 y2 y3 y4) (nats_QuoRem.l0 (k + 1) y0 y1 y2 y3 y4))
  | 0 => fun _ _ _ _ _ r h => by simp [nats_QuoRem.l0] at h
  | k + 1 => by
    have ih0 := nats_QuoRem.mono_l k
    · intro y0 y1 y2 y3 y4
      unfold nats_QuoRem.l0
      repeat' first
      | (with_reducible exact ih0 _ _ _ _ _)
      | (with_reducible exact nats_Cmp.mono _ _ _)
      | (with_reducible exact nats_Shl.mono _ _ _)
      | (with_reducible exact nats_Shr.mono _ _ _)
      | (with_reducible exact nats_Trim.mono _ _)
      | (with_reducible exact nats_cut.mono _ _)
      | (with_reducible exact nats_cuto.mono _ _)
      | (with_reducible exact nats_digitat.mono _ _ _ _ _)
      | (with_reducible exact nats_word.mono _ _ _)
      | (with_reducible exact LeO.refl _)
      | (with_reducible exact LeO.none _)
      | (with_reducible refine LeO.ite ?_ ?_)
      | (with_reducible refine LeO.bind ?_ (fun _ => ?_))
      | exact ih0 _ _ _ _ _
      | exact nats_Cmp.mono _ _ _
      | exact nats_Shl.mono _ _ _
      | exact nats_Shr.mono _ _ _
      | exact nats_Trim.mono _ _
      | exact nats_cut.mono _ _
      | exact nats_cuto.mono _ _
      | exact nats_digitat.mono _ _ _ _ _
      | exact nats_word.mono _ _ _
      | exact LeO.none _
      | refine LeO.ite ?_ ?_
      | refine LeO.bind ?_ (fun _ => ?_)
theorem nats_QuoRem.mono : ∀ a0 a1 k, LeO (nats_QuoRem.f k a0 a1) (nats_QuoRem.f (k + 1) a0 a1) := by
  intro a0 a1 k
  have ih0 := nats_QuoRem.mono_l k
  unfold nats_QuoRem.f
  repeat' first
      | (with_reducible exact ih0 _ _ _ _ _)
      | (with_reducible exact nats_Cmp.mono _ _ _)
      | (with_reducible exact nats_Shl.mono _ _ _)
      | (with_reducible exact nats_Shr.mono _ _ _)
      | (with_reducible exact nats_Trim.mono _ _)
      | (with_reducible exact nats_cut.mono _ _)
      | (with_reducible exact nats_cuto.mono _ _)
      | (with_reducible exact nats_digitat.mono _ _ _ _ _)
      | (with_reducible exact nats_word.mono _ _ _)
      | (with_reducible exact LeO.refl _)
      | (with_reducible exact LeO.none _)
      | (with_reducible refine LeO.ite ?_ ?_)
      | (with_reducible refine LeO.bind ?_ (fun _ => ?_))
      | exact ih0 _ _ _ _ _
      | exact nats_Cmp.mono _ _ _
      | exact nats_Shl.mono _ _ _
      | exact nats_Shr.mono _ _ _
      | exact nats_Trim.mono _ _
      | exact nats_cut.mono _ _
      | exact nats_cuto.mono _ _
      | exact nats_digitat.mono _ _ _ _ _
      | exact nats_word.mono _ _ _
      | exact LeO.none _
      | refine LeO.ite ?_ ?_
      | refine LeO.bind ?_ (fun _ => ?_)
set_option maxHeartbeats 8000000 in
set_option maxRecDepth 100000 in
theorem nats_QuoRem.calls (k : Nat) (A0 : Option Addr) (c0 : Nat) (l0 : List Int) (A1 : Option Addr) (c1 : Nat) (l1 : List Int) (r1 : List Int) (r2 : List Int) (w : World) (hr0 : Kd.C (Kd.int .u32) w A0 l0.length l0) (hc0 : l0.length ≤ c0) (hr1 : Kd.C (Kd.int .u32) w A1 l1.length l1) (hc1 : l1.length ≤ c1) (h : nats_QuoRem.f k l0 l1 = some (r1, r2)) :
    Calls Try.prog 83 #[.slice A0 l0.length c0, .slice A1 l1.length c1] w fun e w' => ∃ v0_ v1_ : Value, e = .returned (.tuple #[v0_, v1_]) ∧ Kd.R (Kd.int .u32) 47 w' w.heap.size (fun k_ => some k_ ≠ (v1_ : Value).ownBlock) v0_ r1 ∧ Kd.R (Kd.int .u32) 47 w' w.heap.size (fun k_ => some k_ ≠ (v0_ : Value).ownBlock) v1_ r2 ∧ Below w.heap.size w w' := by
  have HR0 := Aside0.mk hr0
  have HC0 := Aside0.mk hc0
  clear hr0 hc0
  have HR1 := Aside0.mk hr1
  have HC1 := Aside0.mk hc1
  clear hr1 hc1
  have HB := Aside0.mk (Below.refl w.heap.size w)
  have H : ((nats_cut.f k l0).bind fun t222 => ((nats_cut.f k l1).bind fun t225 => ((nats_Cmp.f k t222 t225).bind fun t228 => (if t228 < 0 then ((nats_Trim.f k t222).bind fun t229 => (some (([] : List Int), t229))) else (if (t225.length : Int) = 1 then (if 0 < (t225.length : Int) then ((nats_word.f k t222 (rd t225 0)).bind fun bt233 => ((nats_cuto.f k (([bt233.2] : List Int))).bind fun t240 => (some (bt233.1, t240)))) else (none)) else (if 0 ≤ (wrap64 ((t225.length : Int) - 1)) then (if (wrap64 ((t225.length : Int) - 1)) < (t225.length : Int) then ((bits_LeadingZeros32.f (rd t225 (wrap64 ((t225.length : Int) - 1)))).bind fun t244 => ((nats_Shl.f k t225 t244).bind fun t245 => (if 0 ≤ (wrap64 ((t222.length : Int) + 1)) then (if (wrap64 ((t222.length : Int) + 1) : Int).toNat ≤ 70368744177664 then ((some (List.replicate (wrap64 ((t222.length : Int) + 1) : Int).toNat 0 : List Int)).bind fun y248 => ((nats_Shl.f k t222 t244).bind fun t251 => (if 0 ≤ (wrap64 ((wrap64 ((t222.length : Int) - (t225.length : Int))) + 1)) then (if (wrap64 ((wrap64 ((t222.length : Int) - (t225.length : Int))) + 1) : Int).toNat ≤ 70368744177664 then ((some (List.replicate (wrap64 ((wrap64 ((t222.length : Int) - (t225.length : Int))) + 1) : Int).toNat 0 : List Int)).bind fun y255 => (nats_QuoRem.l0 k t244 t245 (t251.take y248.length ++ y248.drop t251.length) y255 (wrap64 ((y255.length : Int) - 1)))) else (none)) else (none)))) else (none)) else (none)))) else (none)) else (none))))))) = some (r1, r2) := h
  clear h
  replace H := Option.bind_eq_some_iff.mp H
  obtain ⟨t222, A30, H⟩ := H
  replace H : ((nats_cut.f k l1).bind fun t225 => ((nats_Cmp.f k t222 t225).bind fun t228 => (if t228 < 0 then ((nats_Trim.f k t222).bind fun t229 => (some (([] : List Int), t229))) else (if (t225.length : Int) = 1 then (if 0 < (t225.length : Int) then ((nats_word.f k t222 (rd t225 0)).bind fun bt233 => ((nats_cuto.f k (([bt233.2] : List Int))).bind fun t240 => (some (bt233.1, t240)))) else (none)) else (if 0 ≤ (wrap64 ((t225.length : Int) - 1)) then (if (wrap64 ((t225.length : Int) - 1)) < (t225.length : Int) then ((bits_LeadingZeros32.f (rd t225 (wrap64 ((t225.length : Int) - 1)))).bind fun t244 => ((nats_Shl.f k t225 t244).bind fun t245 => (if 0 ≤ (wrap64 ((t222.length : Int) + 1)) then (if (wrap64 ((t222.length : Int) + 1) : Int).toNat ≤ 70368744177664 then ((some (List.replicate (wrap64 ((t222.length : Int) + 1) : Int).toNat 0 : List Int)).bind fun y248 => ((nats_Shl.f k t222 t244).bind fun t251 => (if 0 ≤ (wrap64 ((wrap64 ((t222.length : Int) - (t225.length : Int))) + 1)) then (if (wrap64 ((wrap64 ((t222.length : Int) - (t225.length : Int))) + 1) : Int).toNat ≤ 70368744177664 then ((some (List.replicate (wrap64 ((wrap64 ((t222.length : Int) - (t225.length : Int))) + 1) : Int).toNat 0 : List Int)).bind fun y255 => (nats_QuoRem.l0 k t244 t245 (t251.take y248.length ++ y248.drop t251.length) y255 (wrap64 ((y255.length : Int) - 1)))) else (none)) else (none)))) else (none)) else (none)))) else (none)) else (none)))))) = some (r1, r2) := H
  have A3 := Aside0.mk A30
  clear A30
  replace H := Option.bind_eq_some_iff.mp H
  obtain ⟨t225, A40, H⟩ := H
  replace H : ((nats_Cmp.f k t222 t225).bind fun t228 => (if t228 < 0 then ((nats_Trim.f k t222).bind fun t229 => (some (([] : List Int), t229))) else (if (t225.length : Int) = 1 then (if 0 < (t225.length : Int) then ((nats_word.f k t222 (rd t225 0)).bind fun bt233 => ((nats_cuto.f k (([bt233.2] : List Int))).bind fun t240 => (some (bt233.1, t240)))) else (none)) else (if 0 ≤ (wrap64 ((t225.length : Int) - 1)) then (if (wrap64 ((t225.length : Int) - 1)) < (t225.length : Int) then ((bits_LeadingZeros32.f (rd t225 (wrap64 ((t225.length : Int) - 1)))).bind fun t244 => ((nats_Shl.f k t225 t244).bind fun t245 => (if 0 ≤ (wrap64 ((t222.length : Int) + 1)) then (if (wrap64 ((t222.length : Int) + 1) : Int).toNat ≤ 70368744177664 then ((some (List.replicate (wrap64 ((t222.length : Int) + 1) : Int).toNat 0 : List Int)).bind fun y248 => ((nats_Shl.f k t222 t244).bind fun t251 => (if 0 ≤ (wrap64 ((wrap64 ((t222.length : Int) - (t225.length : Int))) + 1)) then (if (wrap64 ((wrap64 ((t222.length : Int) - (t225.length : Int))) + 1) : Int).toNat ≤ 70368744177664 then ((some (List.replicate (wrap64 ((wrap64 ((t222.length : Int) - (t225.length : Int))) + 1) : Int).toNat 0 : List Int)).bind fun y255 => (nats_QuoRem.l0 k t244 t245 (t251.take y248.length ++ y248.drop t251.length) y255 (wrap64 ((y255.length : Int) - 1)))) else (none)) else (none)))) else (none)) else (none)))) else (none)) else (none))))) = some (r1, r2) := H
  have A4 := Aside0.mk A40
  clear A40
  replace H := Option.bind_eq_some_iff.mp H
  obtain ⟨t228, A50, H⟩ := H
  replace H : (if t228 < 0 then ((nats_Trim.f k t222).bind fun t229 => (some (([] : List Int), t229))) else (if (t225.length : Int) = 1 then (if 0 < (t225.length : Int) then ((nats_word.f k t222 (rd t225 0)).bind fun bt233 => ((nats_cuto.f k (([bt233.2] : List Int))).bind fun t240 => (some (bt233.1, t240)))) else (none)) else (if 0 ≤ (wrap64 ((t225.length : Int) - 1)) then (if (wrap64 ((t225.length : Int) - 1)) < (t225.length : Int) then ((bits_LeadingZeros32.f (rd t225 (wrap64 ((t225.length : Int) - 1)))).bind fun t244 => ((nats_Shl.f k t225 t244).bind fun t245 => (if 0 ≤ (wrap64 ((t222.length : Int) + 1)) then (if (wrap64 ((t222.length : Int) + 1) : Int).toNat ≤ 70368744177664 then ((some (List.replicate (wrap64 ((t222.length : Int) + 1) : Int).toNat 0 : List Int)).bind fun y248 => ((nats_Shl.f k t222 t244).bind fun t251 => (if 0 ≤ (wrap64 ((wrap64 ((t222.length : Int) - (t225.length : Int))) + 1)) then (if (wrap64 ((wrap64 ((t222.length : Int) - (t225.length : Int))) + 1) : Int).toNat ≤ 70368744177664 then ((some (List.replicate (wrap64 ((wrap64 ((t222.length : Int) - (t225.length : Int))) + 1) : Int).toNat 0 : List Int)).bind fun y255 => (nats_QuoRem.l0 k t244 t245 (t251.take y248.length ++ y248.drop t251.length) y255 (wrap64 ((y255.length : Int) - 1)))) else (none)) else (none)))) else (none)) else (none)))) else (none)) else (none)))) = some (r1, r2) := H
  have A5 := Aside0.mk A50
  clear A50
  by_cases c6 : t228 < 0
  · rw [if_pos c6] at H
    have c6b0 : decide (t228 < 0) = true := decide_eq_true c6
    clear c6
    replace H := Option.bind_eq_some_iff.mp H
    obtain ⟨t229, A70, H⟩ := H
    replace H : (some (([] : List Int), t229)) = some (r1, r2) := H
    have A7 := Aside0.mk A70
    clear A70
    simp only [Option.some.injEq, Prod.mk.injEq] at H
    obtain ⟨rfl, rfl⟩ := H
    go_enter Try.func83, Try.ntmps83
    go_wp2_with (first | ((with_reducible refine gate_callee (f := 108) rfl ?_); refine goesL_ (some 14) rfl rfl Try.func108 (by kernel_rfl) rfl #[.slice A0 l0.length c0] rfl (by (try simp only [List.map_toArray, List.map_cons, List.map_nil]); first | done | rfl | (simp only [List.length_drop, List.length_take]; rfl)) ?_; (with_reducible refine (nats_cut.calls k (fun k_ => k_ < w.heap.size) _ _ l0 t222 _ ?side1 A3.out).mono ?_); (case side1 => exact Kd.V_mk HC0.out (Kd.F_below (Kd.C_F (Kd.heap_int .u32) HR0.out) (by repeat (first | (with_reducible first | exact HB.out | apply below_alloc | apply pw_below_drewN | apply below_drew1) | exact HB.out)))); rintro e w8 ⟨v223, rfl, ho0, hb⟩; refine ⟨_, rfl, ?_⟩; have n0_ := Aside0.mk (Kd.V_lower (Kd.V_mono (ok' := fun k_ => True) ho0 (fun k_ hk_ => trivial)) (below_size (by repeat (first | (with_reducible first | exact HB.out | apply below_alloc | apply pw_below_drewN | apply below_drew1) | exact HB.out)))); have n1_ := Aside0.mk (below_step (by repeat (first | (with_reducible first | exact HB.out | apply below_alloc | apply pw_below_drewN | apply below_drew1) | exact HB.out)) hb); clear HB; have HO224 := n0_; have HB := n1_; clear n0_ n1_; (try clear hb); (try clear hb2); (try clear hk); (try clear hi); (try clear ho0)) | ((with_reducible refine gate_callee (f := 108) rfl ?_); refine goesL_ (some 16) rfl rfl Try.func108 (by kernel_rfl) rfl #[.slice A1 l1.length c1] rfl (by (try simp only [List.map_toArray, List.map_cons, List.map_nil]); first | done | rfl | (simp only [List.length_drop, List.length_take]; rfl)) ?_; (with_reducible refine (nats_cut.calls k (fun k_ => k_ < w.heap.size) _ _ l1 t225 _ ?side1 A4.out).mono ?_); (case side1 => exact Kd.V_mk HC1.out (Kd.F_below (Kd.C_F (Kd.heap_int .u32) HR1.out) (by repeat (first | (with_reducible first | exact HB.out | apply below_alloc | apply pw_below_drewN | apply below_drew1) | exact HB.out)))); rintro e w9 ⟨v226, rfl, ho0, hb⟩; refine ⟨_, rfl, ?_⟩; have n0_ := Aside0.mk (Kd.V_below (by (with_reducible repeat (first | apply Kd.V_alloc | apply Kd.V_drewN | apply Kd.V_drew)); exact HO224.out) hb); have n1_ := Aside0.mk (Kd.V_lower (Kd.V_mono (ok' := fun k_ => True) ho0 (fun k_ hk_ => trivial)) (below_size (by repeat (first | (with_reducible first | exact HB.out | apply below_alloc | apply pw_below_drewN | apply below_drew1) | exact HB.out)))); have n2_ := Aside0.mk (below_step (by repeat (first | (with_reducible first | exact HB.out | apply below_alloc | apply pw_below_drewN | apply below_drew1) | exact HB.out)) hb); clear HO224; clear HB; have HO224 := n0_; have HO227 := n1_; have HB := n2_; clear n0_ n1_ n2_; (try clear hb); (try clear hb2); (try clear hk); (try clear hi); (try clear ho0); obtain ⟨Ao10, co10, eo10⟩ := Kd.V_slice HO224.out; subst eo10; obtain ⟨Ao11, co11, eo11⟩ := Kd.V_slice HO227.out; subst eo11) | ((with_reducible refine gate_callee (f := 89) rfl ?_); refine goesL_ (some 19) rfl rfl Try.func89 (by kernel_rfl) rfl #[.slice Ao10 t222.length co10, .slice Ao11 t225.length co11] rfl (by (try simp only [List.map_toArray, List.map_cons, List.map_nil]); first | done | rfl | (simp only [List.length_drop, List.length_take]; rfl)) ?_; (with_reducible refine (nats_Cmp.calls k _ _ t222 _ _ t225 t228 _ ?side1 ?side2 ?side3 ?side4 A5.out).mono ?_); (case side1 => repeat (first | exact (Kd.V_reads' HO224.out).2.2 | (with_reducible refine Kd.C_alloc ?_ _) | (with_reducible refine Kd.C_drewN ?_ _) | (with_reducible refine Kd.C_drew ?_))); (case side2 => exact (Kd.V_reads' HO224.out).2.1); (case side3 => repeat (first | exact (Kd.V_reads' HO227.out).2.2 | (with_reducible refine Kd.C_alloc ?_ _) | (with_reducible refine Kd.C_drewN ?_ _) | (with_reducible refine Kd.C_drew ?_))); (case side4 => exact (Kd.V_reads' HO227.out).2.1); rintro e w12 ⟨rfl, hb⟩; refine ⟨_, rfl, ?_⟩; have n0_ := Aside0.mk (Kd.V_below (by (with_reducible repeat (first | apply Kd.V_alloc | apply Kd.V_drewN | apply Kd.V_drew)); exact HO224.out) hb); have n1_ := Aside0.mk (Kd.V_below (by (with_reducible repeat (first | apply Kd.V_alloc | apply Kd.V_drewN | apply Kd.V_drew)); exact HO227.out) hb); have n2_ := Aside0.mk (below_step (by repeat (first | (with_reducible first | exact HB.out | apply below_alloc | apply pw_below_drewN | apply below_drew1) | exact HB.out)) hb); clear HO224; clear HO227; clear HB; have HO224 := n0_; have HO227 := n1_; have HB := n2_; clear n0_ n1_ n2_; (try clear hb); (try clear hb2); (try clear hk); (try clear hi)) | ((with_reducible refine gate_callee (f := 90) rfl ?_); refine goesL_ (some 22) rfl rfl Try.func90 (by kernel_rfl) rfl #[.slice Ao10 t222.length co10] rfl (by (try simp only [List.map_toArray, List.map_cons, List.map_nil]); first | done | rfl | (simp only [List.length_drop, List.length_take]; rfl)) ?_; (with_reducible refine (nats_Trim.calls k _ _ t222 t229 _ ?side1 ?side2 A7.out).mono ?_); (case side1 => repeat (first | exact (Kd.V_reads' HO224.out).2.2 | (with_reducible refine Kd.C_alloc ?_ _) | (with_reducible refine Kd.C_drewN ?_ _) | (with_reducible refine Kd.C_drew ?_))); (case side2 => exact (Kd.V_reads' HO224.out).2.1); rintro e w13 ⟨v230, rfl, ho0, hb⟩; refine ⟨_, rfl, ?_⟩; have n0_ := Aside0.mk (Kd.V_elder' (by (with_reducible repeat (first | apply Kd.V_alloc | apply Kd.V_drewN | apply Kd.V_drew)); exact HO224.out) (Kd.R_base ho0) hb); have n1_ := Aside0.mk (Kd.V_elder' (by (with_reducible repeat (first | apply Kd.V_alloc | apply Kd.V_drewN | apply Kd.V_drew)); exact HO227.out) (Kd.R_base ho0) hb); have n2_ := Aside0.mk (Kd.R_lower ho0 (below_size (by repeat (first | (with_reducible first | exact HB.out | apply below_alloc | apply pw_below_drewN | apply below_drew1) | exact HB.out)))); have n3_ := Aside0.mk (below_step (by repeat (first | (with_reducible first | exact HB.out | apply below_alloc | apply pw_below_drewN | apply below_drew1) | exact HB.out)) hb); clear HO224; clear HO227; clear HB; have HO224 := n0_; have HO227 := n1_; have HO231 := n2_; have HB := n3_; clear n0_ n1_ n2_ n3_; (try clear hb); (try clear hb2); (try clear hk); (try clear hi); (try clear ho0)))
    go_ret2
    exact ⟨_, _, by first | rfl | (simp [errW_none, errW_some] <;> rfl) | (simp [*, errW_none, errW_some] <;> rfl), by first | exact Kd.R_nil _ _ _ _ _ | exact Kd.N_nil _ _ _ _ _ | exact Kd.V_nil _ _ _ _ _ | exact Kd.Q_nil _ _ _ _ _ | exact Kd.S_nil _ _ _ _ _, by (with_reducible repeat (first | apply Kd.R_alloc | apply Kd.R_drewN | apply Kd.R_drew)); exact Kd.R_mono HO231.out (fun _ hk => (by simp [Value.ownBlock])), by repeat (first | (with_reducible first | exact HB.out | apply below_alloc | apply pw_below_drewN | apply below_drew1) | exact HB.out)⟩
  · rw [if_neg c6] at H
    have c6b0 : decide (t228 < 0) = false := decide_eq_false c6
    clear c6
    by_cases c14 : (t225.length : Int) = 1
    · rw [if_pos c14] at H
      have c14b0 : ((t225.length : Int) == 1) = true := beq_iff_eq.mpr c14
      have c14b1 : ((t225.length : Int) != 1) = false := bne_eq_false_iff_eq.mpr c14
      clear c14
      by_cases c15 : 0 < (t225.length : Int)
      · rw [if_pos c15] at H
        have c15b0 : decide (0 < (t225.length : Int)) = true := decide_eq_true c15
        have c15b1 : decide (0 < t225.length) = true := decide_eq_true (by omega)
        clear c15
        replace H := Option.bind_eq_some_iff.mp H
        obtain ⟨⟨t233, t234⟩, A160, H⟩ := H
        replace H : ((nats_cuto.f k (([t234] : List Int))).bind fun t240 => (some (t233, t240))) = some (r1, r2) := H
        have A16 := Aside0.mk A160
        clear A160
        obtain ⟨y237, hy237⟩ : ∃ y_ : List Int, y_ = (([t234] : List Int)) := ⟨_, rfl⟩
        replace H : ((nats_cuto.f k y237).bind fun t240 => (some (t233, t240))) = some (r1, r2) := by first | (rw [hy237]; with_reducible exact H) | (have H2_ := (Option.bind_some _ _).symm.trans H; rw [hy237]; with_reducible exact H2_) | (have H2_ := (Option.bind_some _ _).symm.trans H; with_reducible exact H2_) | with_reducible exact H | (rw [hy237]; exact H) | exact H
        have Ny237 := Aside0.mk hy237
        clear hy237
        replace H := Option.bind_eq_some_iff.mp H
        obtain ⟨t240, A170, H⟩ := H
        replace H : (some (t233, t240)) = some (r1, r2) := H
        have A17 := Aside0.mk A170
        clear A170
        simp only [Option.some.injEq, Prod.mk.injEq] at H
        obtain ⟨rfl, rfl⟩ := H
        go_enter Try.func83, Try.ntmps83
        go_wp2_with (first | ((with_reducible refine gate_callee (f := 108) rfl ?_); refine goesL_ (some 14) rfl rfl Try.func108 (by kernel_rfl) rfl #[.slice A0 l0.length c0] rfl (by (try simp only [List.map_toArray, List.map_cons, List.map_nil]); first | done | rfl | (simp only [List.length_drop, List.length_take]; rfl)) ?_; (with_reducible refine (nats_cut.calls k (fun k_ => k_ < w.heap.size) _ _ l0 t222 _ ?side1 A3.out).mono ?_); (case side1 => exact Kd.V_mk HC0.out (Kd.F_below (Kd.C_F (Kd.heap_int .u32) HR0.out) (by repeat (first | (with_reducible first | exact HB.out | apply below_alloc | apply pw_below_drewN | apply below_drew1) | exact HB.out)))); rintro e w18 ⟨v223, rfl, ho0, hb⟩; refine ⟨_, rfl, ?_⟩; have n0_ := Aside0.mk (Kd.V_lower (Kd.V_mono (ok' := fun k_ => True) ho0 (fun k_ hk_ => trivial)) (below_size (by repeat (first | (with_reducible first | exact HB.out | apply below_alloc | apply pw_below_drewN | apply below_drew1) | exact HB.out)))); have n1_ := Aside0.mk (below_step (by repeat (first | (with_reducible first | exact HB.out | apply below_alloc | apply pw_below_drewN | apply below_drew1) | exact HB.out)) hb); clear HB; have HO224 := n0_; have HB := n1_; clear n0_ n1_; (try clear hb); (try clear hb2); (try clear hk); (try clear hi); (try clear ho0)) | ((with_reducible refine gate_callee (f := 108) rfl ?_); refine goesL_ (some 16) rfl rfl Try.func108 (by kernel_rfl) rfl #[.slice A1 l1.length c1] rfl (by (try simp only [List.map_toArray, List.map_cons, List.map_nil]); first | done | rfl | (simp only [List.length_drop, List.length_take]; rfl)) ?_; (with_reducible refine (nats_cut.calls k (fun k_ => k_ < w.heap.size) _ _ l1 t225 _ ?side1 A4.out).mono ?_); (case side1 => exact Kd.V_mk HC1.out (Kd.F_below (Kd.C_F (Kd.heap_int .u32) HR1.out) (by repeat (first | (with_reducible first | exact HB.out | apply below_alloc | apply pw_below_drewN | apply below_drew1) | exact HB.out)))); rintro e w19 ⟨v226, rfl, ho0, hb⟩; refine ⟨_, rfl, ?_⟩; have n0_ := Aside0.mk (Kd.V_below (by (with_reducible repeat (first | apply Kd.V_alloc | apply Kd.V_drewN | apply Kd.V_drew)); exact HO224.out) hb); have n1_ := Aside0.mk (Kd.V_lower (Kd.V_mono (ok' := fun k_ => True) ho0 (fun k_ hk_ => trivial)) (below_size (by repeat (first | (with_reducible first | exact HB.out | apply below_alloc | apply pw_below_drewN | apply below_drew1) | exact HB.out)))); have n2_ := Aside0.mk (below_step (by repeat (first | (with_reducible first | exact HB.out | apply below_alloc | apply pw_below_drewN | apply below_drew1) | exact HB.out)) hb); clear HO224; clear HB; have HO224 := n0_; have HO227 := n1_; have HB := n2_; clear n0_ n1_ n2_; (try clear hb); (try clear hb2); (try clear hk); (try clear hi); (try clear ho0); obtain ⟨Ao20, co20, eo20⟩ := Kd.V_slice HO224.out; subst eo20; obtain ⟨Ao21, co21, eo21⟩ := Kd.V_slice HO227.out; subst eo21) | ((with_reducible refine gate_callee (f := 89) rfl ?_); refine goesL_ (some 19) rfl rfl Try.func89 (by kernel_rfl) rfl #[.slice Ao20 t222.length co20, .slice Ao21 t225.length co21] rfl (by (try simp only [List.map_toArray, List.map_cons, List.map_nil]); first | done | rfl | (simp only [List.length_drop, List.length_take]; rfl)) ?_; (with_reducible refine (nats_Cmp.calls k _ _ t222 _ _ t225 t228 _ ?side1 ?side2 ?side3 ?side4 A5.out).mono ?_); (case side1 => repeat (first | exact (Kd.V_reads' HO224.out).2.2 | (with_reducible refine Kd.C_alloc ?_ _) | (with_reducible refine Kd.C_drewN ?_ _) | (with_reducible refine Kd.C_drew ?_))); (case side2 => exact (Kd.V_reads' HO224.out).2.1); (case side3 => repeat (first | exact (Kd.V_reads' HO227.out).2.2 | (with_reducible refine Kd.C_alloc ?_ _) | (with_reducible refine Kd.C_drewN ?_ _) | (with_reducible refine Kd.C_drew ?_))); (case side4 => exact (Kd.V_reads' HO227.out).2.1); rintro e w22 ⟨rfl, hb⟩; refine ⟨_, rfl, ?_⟩; have n0_ := Aside0.mk (Kd.V_below (by (with_reducible repeat (first | apply Kd.V_alloc | apply Kd.V_drewN | apply Kd.V_drew)); exact HO224.out) hb); have n1_ := Aside0.mk (Kd.V_below (by (with_reducible repeat (first | apply Kd.V_alloc | apply Kd.V_drewN | apply Kd.V_drew)); exact HO227.out) hb); have n2_ := Aside0.mk (below_step (by repeat (first | (with_reducible first | exact HB.out | apply below_alloc | apply pw_below_drewN | apply below_drew1) | exact HB.out)) hb); clear HO224; clear HO227; clear HB; have HO224 := n0_; have HO227 := n1_; have HB := n2_; clear n0_ n1_ n2_; (try clear hb); (try clear hb2); (try clear hk); (try clear hi); have p232 : 0 ≤ (0 : Int) := (by omega); have q232 : 0 < (t225.length : Int) := of_decide_eq_true (by first | (with_reducible assumption) | assumption); obtain ⟨ad232, e232, hx232_0⟩ := Kd.at_int (Kd.V_reads' HO227.out).2.2 0 p232 q232; cases e232; have qi232 : (0 < t225.length) = True := eq_true (by omega); (try rw [show ((0 : Int)).toNat = 0 from rfl] at hx232_0); (try rw [Addr.add_zero'] at hx232_0); replace p232 := eq_true p232; replace q232 := eq_true q232) | ((with_reducible refine gate_callee (f := 110) rfl ?_); refine goesL_ (some 31) rfl rfl Try.func110 (by kernel_rfl) rfl #[.slice Ao20 t222.length co20, .int .u32 (rd t225 0)] rfl (by (try simp only [List.map_toArray, List.map_cons, List.map_nil]); first | done | rfl | (simp only [List.length_drop, List.length_take]; rfl)) ?_; (with_reducible refine (nats_word.calls k _ _ t222 (rd t225 0) t233 t234 _ ?side1 ?side2 A16.out).mono ?_); (case side1 => repeat (first | exact (Kd.V_reads' HO224.out).2.2 | (with_reducible refine Kd.C_alloc ?_ _) | (with_reducible refine Kd.C_drewN ?_ _) | (with_reducible refine Kd.C_drew ?_))); (case side2 => exact (Kd.V_reads' HO224.out).2.1); rintro e w23 ⟨v235, rfl, ho0, hb⟩; refine ⟨_, rfl, ?_⟩; have n0_ := Aside0.mk (Kd.V_elder' (by (with_reducible repeat (first | apply Kd.V_alloc | apply Kd.V_drewN | apply Kd.V_drew)); exact HO224.out) (Kd.R_base ho0) hb); have n1_ := Aside0.mk (Kd.V_elder' (by (with_reducible repeat (first | apply Kd.V_alloc | apply Kd.V_drewN | apply Kd.V_drew)); exact HO227.out) (Kd.R_base ho0) hb); have n2_ := Aside0.mk (Kd.R_lower ho0 (below_size (by repeat (first | (with_reducible first | exact HB.out | apply below_alloc | apply pw_below_drewN | apply below_drew1) | exact HB.out)))); have n3_ := Aside0.mk (below_step (by repeat (first | (with_reducible first | exact HB.out | apply below_alloc | apply pw_below_drewN | apply below_drew1) | exact HB.out)) hb); clear HO224; clear HO227; clear HB; have HO224 := n0_; have HO227 := n1_; have HO236 := n2_; have HB := n3_; clear n0_ n1_ n2_ n3_; (try clear hb); (try clear hb2); (try clear hk); (try clear hi); (try clear ho0)) | ((with_reducible refine gate_dst (N := 36) rfl ?_); refine Kd.R_lit (Kd.int .u32) _ 47 ?hg (N := 36) ?hd (xs := ([t234] : List Int)) (inner := [.int .u32 t234]) (ok := fun _ => True) (okp := fun _ => True) ?hr ?hp (fun _ hk => hk) trivial (Below.refl _ _) (Nat.le_refl _) (by simp) ?_; (case hd => rfl); (case hg => rfl); (case hr => first | (go_simp; done) | (go_simp; rfl)); (case hp => exact (Reps.one (show Kd.M (Kd.int .u32) _ _ _ t234 [.int .u32 t234] from rfl) (Reps.none _ _))); intro v238 w24 ho25 hb hg_ hnew_; clear hg_ hnew_; (first | rw [← Ny237.out] at ho25 | (simp only [Int.reduceToNat] at ho25; rw [← Ny237.out] at ho25)); have n0_ := Aside0.mk (Kd.V_elder' (by (with_reducible repeat (first | apply Kd.V_alloc | apply Kd.V_drewN | apply Kd.V_drew)); exact HO224.out) (Kd.R_base ho25) hb); have n1_ := Aside0.mk (Kd.V_elder' (by (with_reducible repeat (first | apply Kd.V_alloc | apply Kd.V_drewN | apply Kd.V_drew)); exact HO227.out) (Kd.R_base ho25) hb); have n2_ := Aside0.mk (Kd.R_elder' (by (with_reducible repeat (first | apply Kd.R_alloc | apply Kd.R_drewN | apply Kd.R_drew)); exact HO236.out) (Kd.R_base ho25) hb); have n3_ := Aside0.mk (Kd.R_lower (Kd.R_new' ho25 (Kd.R_lt (by (with_reducible repeat (first | apply Kd.R_alloc | apply Kd.R_drewN | apply Kd.R_drew)); exact HO236.out))) (below_size (by repeat (first | (with_reducible first | exact HB.out | apply below_alloc | apply pw_below_drewN | apply below_drew1) | exact HB.out)))); have n4_ := Aside0.mk (below_step (by repeat (first | (with_reducible first | exact HB.out | apply below_alloc | apply pw_below_drewN | apply below_drew1) | exact HB.out)) hb); clear HO224; clear HO227; clear HO236; clear HB; have HO224 := n0_; have HO227 := n1_; have HO236 := n2_; have HO239 := n3_; have HB := n4_; clear n0_ n1_ n2_ n3_ n4_; clear hb ho25; obtain ⟨Ao26, co26, eo26⟩ := Kd.R_slice HO239.out; subst eo26) | ((with_reducible refine gate_callee (f := 108) rfl ?_); refine goesL_ (some 37) rfl rfl Try.func108 (by kernel_rfl) rfl #[.slice Ao26 y237.length co26] rfl (by (try simp only [List.map_toArray, List.map_cons, List.map_nil]); first | done | rfl | (simp only [List.length_drop, List.length_take]; rfl)) ?_; (with_reducible refine (nats_cuto.calls k (fun k_ => some k_ = (.slice Ao26 y237.length co26 : Value).ownBlock) (.slice Ao26 y237.length co26) y237 t240 w _ ?side1 ?side2 A17.out).mono ?_); (case side1 => repeat (first | (with_reducible first | exact HB.out | apply below_alloc | apply pw_below_drewN | apply below_drew1) | exact HB.out)); (case side2 => exact Kd.R_tight rfl HO239.out); rintro e w27 ⟨v241, rfl, ho0, hb, hkp⟩; refine ⟨_, rfl, ?_⟩; have n0_ := Aside0.mk (Kd.V_mono (ok' := fun k_ => some k_ ≠ (v235 : Value).ownBlock ∧ some k_ ≠ (v241 : Value).ownBlock) (Kd.V_keptB (HO224.out) hkp (fun k_ hk_ hs_ => (hk_.2) hs_)) (fun k_ hk_ => ⟨hk_.1.1.2, fun e_ => Or.elim (ho0.1 k_ e_.symm) (fun hs_ => hk_.2.1 hs_) (fun hn_ => Nat.not_le.2 hk_.2.2 hn_)⟩)); have n1_ := Aside0.mk (Kd.V_mono (ok' := fun k_ => some k_ ≠ (v235 : Value).ownBlock ∧ some k_ ≠ (v241 : Value).ownBlock) (Kd.V_keptB (HO227.out) hkp (fun k_ hk_ hs_ => (hk_.2) hs_)) (fun k_ hk_ => ⟨hk_.1.1.2, fun e_ => Or.elim (ho0.1 k_ e_.symm) (fun hs_ => hk_.2.1 hs_) (fun hn_ => Nat.not_le.2 hk_.2.2 hn_)⟩)); have n2_ := Aside0.mk (Kd.R_mono (ok' := fun k_ => some k_ ≠ (v241 : Value).ownBlock) (Kd.R_keptB (HO236.out) hkp (fun k_ hk_ hs_ => (hk_.2) hs_)) (fun k_ hk_ => fun e_ => Or.elim (ho0.1 k_ e_.symm) (fun hs_ => hk_.2.1 hs_) (fun hn_ => Nat.not_le.2 hk_.2.2 hn_))); have n3_ := Aside0.mk (Kd.R_mono (ok' := fun k_ => some k_ ≠ (v235 : Value).ownBlock) ho0 (fun k_ hk_ => Or.elim hk_ (fun hs_ => fun e_ => (((HO236.out).1 k_ e_.symm).2) hs_) (fun hn_ => (Kd.fresh' (Kd.R_lt (by (with_reducible repeat (first | apply Kd.R_alloc | apply Kd.R_drewN | apply Kd.R_drew)); exact HO236.out)) k_ hn_)))); have n4_ := Aside0.mk (hb); clear HO224; clear HO227; clear HO236; clear HB; clear HO239; have HO224 := n0_; have HO227 := n1_; have HO236 := n2_; have HO242 := n3_; have HB := n4_; clear n0_ n1_ n2_ n3_ n4_; (try clear hb); (try clear hkp); (try clear ho0)))
        go_ret2
        exact ⟨_, _, by first | rfl | (simp [errW_none, errW_some] <;> rfl) | (simp [*, errW_none, errW_some] <;> rfl), by (with_reducible repeat (first | apply Kd.R_alloc | apply Kd.R_drewN | apply Kd.R_drew)); exact HO236.out, by (with_reducible repeat (first | apply Kd.R_alloc | apply Kd.R_drewN | apply Kd.R_drew)); exact HO242.out, by repeat (first | (with_reducible first | exact HB.out | apply below_alloc | apply pw_below_drewN | apply below_drew1) | exact HB.out)⟩
      · rw [if_neg c15] at H
        exact absurd H (by simp)
    · rw [if_neg c14] at H
      have c14b0 : ((t225.length : Int) == 1) = false := beq_eq_false_iff_ne.mpr c14
      have c14b1 : ((t225.length : Int) != 1) = true := bne_iff_ne.mpr c14
      obtain ⟨ji28, hji28⟩ : ∃ j_ : Int, (wrap64 ((t225.length : Int) - 1)) = j_ := ⟨_, rfl⟩
      replace H : (if 0 ≤ (ji28) then (if (ji28) < (t225.length : Int) then ((bits_LeadingZeros32.f (rd t225 (ji28))).bind fun t244 => ((nats_Shl.f k t225 t244).bind fun t245 => (if 0 ≤ (wrap64 ((t222.length : Int) + 1)) then (if (wrap64 ((t222.length : Int) + 1) : Int).toNat ≤ 70368744177664 then ((some (List.replicate (wrap64 ((t222.length : Int) + 1) : Int).toNat 0 : List Int)).bind fun y248 => ((nats_Shl.f k t222 t244).bind fun t251 => (if 0 ≤ (wrap64 ((wrap64 ((t222.length : Int) - (t225.length : Int))) + 1)) then (if (wrap64 ((wrap64 ((t222.length : Int) - (t225.length : Int))) + 1) : Int).toNat ≤ 70368744177664 then ((some (List.replicate (wrap64 ((wrap64 ((t222.length : Int) - (t225.length : Int))) + 1) : Int).toNat 0 : List Int)).bind fun y255 => (nats_QuoRem.l0 k t244 t245 (t251.take y248.length ++ y248.drop t251.length) y255 (wrap64 ((y255.length : Int) - 1)))) else (none)) else (none)))) else (none)) else (none)))) else (none)) else (none)) = some (r1, r2) := by first | (rw [hji28] at H; exact H) | (simp only [hji28] at H ⊢; exact H)
      (try rw [hji28] at A3)
      (try rw [hji28] at A4)
      (try rw [hji28] at A5)
      have hji28w : (IntKind.i64.wrap ((t225.length : Int) - 1)) = ji28 := (i64_w _).trans hji28
      by_cases c29 : 0 ≤ (ji28)
      · rw [if_pos c29] at H
        have c29b0 : decide (0 ≤ (ji28)) = true := decide_eq_true c29
        clear c29
        by_cases c30 : (ji28) < (t225.length : Int)
        · rw [if_pos c30] at H
          have c30b0 : decide ((ji28) < (t225.length : Int)) = true := decide_eq_true c30
          clear c30
          replace H := Option.bind_eq_some_iff.mp H
          obtain ⟨t244, A310, H⟩ := H
          replace H : ((nats_Shl.f k t225 t244).bind fun t245 => (if 0 ≤ (wrap64 ((t222.length : Int) + 1)) then (if (wrap64 ((t222.length : Int) + 1) : Int).toNat ≤ 70368744177664 then ((some (List.replicate (wrap64 ((t222.length : Int) + 1) : Int).toNat 0 : List Int)).bind fun y248 => ((nats_Shl.f k t222 t244).bind fun t251 => (if 0 ≤ (wrap64 ((wrap64 ((t222.length : Int) - (t225.length : Int))) + 1)) then (if (wrap64 ((wrap64 ((t222.length : Int) - (t225.length : Int))) + 1) : Int).toNat ≤ 70368744177664 then ((some (List.replicate (wrap64 ((wrap64 ((t222.length : Int) - (t225.length : Int))) + 1) : Int).toNat 0 : List Int)).bind fun y255 => (nats_QuoRem.l0 k t244 t245 (t251.take y248.length ++ y248.drop t251.length) y255 (wrap64 ((y255.length : Int) - 1)))) else (none)) else (none)))) else (none)) else (none))) = some (r1, r2) := H
          have A31 := Aside0.mk A310
          clear A310
          replace H := Option.bind_eq_some_iff.mp H
          obtain ⟨t245, A320, H⟩ := H
          replace H : (if 0 ≤ (wrap64 ((t222.length : Int) + 1)) then (if (wrap64 ((t222.length : Int) + 1) : Int).toNat ≤ 70368744177664 then ((some (List.replicate (wrap64 ((t222.length : Int) + 1) : Int).toNat 0 : List Int)).bind fun y248 => ((nats_Shl.f k t222 t244).bind fun t251 => (if 0 ≤ (wrap64 ((wrap64 ((t222.length : Int) - (t225.length : Int))) + 1)) then (if (wrap64 ((wrap64 ((t222.length : Int) - (t225.length : Int))) + 1) : Int).toNat ≤ 70368744177664 then ((some (List.replicate (wrap64 ((wrap64 ((t222.length : Int) - (t225.length : Int))) + 1) : Int).toNat 0 : List Int)).bind fun y255 => (nats_QuoRem.l0 k t244 t245 (t251.take y248.length ++ y248.drop t251.length) y255 (wrap64 ((y255.length : Int) - 1)))) else (none)) else (none)))) else (none)) else (none)) = some (r1, r2) := H
          have A32 := Aside0.mk A320
          clear A320
          obtain ⟨ji33, hji33⟩ : ∃ j_ : Int, (wrap64 ((t222.length : Int) + 1)) = j_ := ⟨_, rfl⟩
          replace H : (if 0 ≤ (ji33) then (if (ji33 : Int).toNat ≤ 70368744177664 then ((some (List.replicate (ji33 : Int).toNat 0 : List Int)).bind fun y248 => ((nats_Shl.f k t222 t244).bind fun t251 => (if 0 ≤ (wrap64 ((wrap64 ((t222.length : Int) - (t225.length : Int))) + 1)) then (if (wrap64 ((wrap64 ((t222.length : Int) - (t225.length : Int))) + 1) : Int).toNat ≤ 70368744177664 then ((some (List.replicate (wrap64 ((wrap64 ((t222.length : Int) - (t225.length : Int))) + 1) : Int).toNat 0 : List Int)).bind fun y255 => (nats_QuoRem.l0 k t244 t245 (t251.take y248.length ++ y248.drop t251.length) y255 (wrap64 ((y255.length : Int) - 1)))) else (none)) else (none)))) else (none)) else (none)) = some (r1, r2) := by first | (rw [hji33] at H; exact H) | (simp only [hji33] at H ⊢; exact H)
          (try rw [hji33] at A3)
          (try rw [hji33] at A4)
          (try rw [hji33] at A5)
          (try rw [hji33] at A31)
          (try rw [hji33] at A32)
          have hji33w : (IntKind.i64.wrap ((t222.length : Int) + 1)) = ji33 := (i64_w _).trans hji33
          by_cases c34 : 0 ≤ (ji33)
          · rw [if_pos c34] at H
            have c34b0 := eq_true c34
            have c34b1 : decide (0 ≤ (ji33)) = true := decide_eq_true c34
            clear c34
            by_cases c35 : (ji33 : Int).toNat ≤ 70368744177664
            · rw [if_pos c35] at H
              have c35b0 := eq_true c35
              have c35b1 : decide ((ji33 : Int).toNat ≤ 70368744177664) = true := decide_eq_true c35
              clear c35
              obtain ⟨y248, hy248⟩ : ∃ y_ : List Int, y_ = (List.replicate (ji33 : Int).toNat 0) := ⟨_, rfl⟩
              replace H : ((nats_Shl.f k t222 t244).bind fun t251 => (if 0 ≤ (wrap64 ((wrap64 ((t222.length : Int) - (t225.length : Int))) + 1)) then (if (wrap64 ((wrap64 ((t222.length : Int) - (t225.length : Int))) + 1) : Int).toNat ≤ 70368744177664 then ((some (List.replicate (wrap64 ((wrap64 ((t222.length : Int) - (t225.length : Int))) + 1) : Int).toNat 0 : List Int)).bind fun y255 => (nats_QuoRem.l0 k t244 t245 (t251.take y248.length ++ y248.drop t251.length) y255 (wrap64 ((y255.length : Int) - 1)))) else (none)) else (none))) = some (r1, r2) := by first | (rw [hy248]; with_reducible exact H) | (have H2_ := (Option.bind_some _ _).symm.trans H; rw [hy248]; with_reducible exact H2_) | (have H2_ := (Option.bind_some _ _).symm.trans H; with_reducible exact H2_) | with_reducible exact H | (rw [hy248]; exact H) | exact H
              have Ny248 := Aside0.mk hy248
              clear hy248
              replace H := Option.bind_eq_some_iff.mp H
              obtain ⟨t251, A360, H⟩ := H
              replace H : (if 0 ≤ (wrap64 ((wrap64 ((t222.length : Int) - (t225.length : Int))) + 1)) then (if (wrap64 ((wrap64 ((t222.length : Int) - (t225.length : Int))) + 1) : Int).toNat ≤ 70368744177664 then ((some (List.replicate (wrap64 ((wrap64 ((t222.length : Int) - (t225.length : Int))) + 1) : Int).toNat 0 : List Int)).bind fun y255 => (nats_QuoRem.l0 k t244 t245 (t251.take y248.length ++ y248.drop t251.length) y255 (wrap64 ((y255.length : Int) - 1)))) else (none)) else (none)) = some (r1, r2) := H
              have A36 := Aside0.mk A360
              clear A360
              obtain ⟨y254, hy254⟩ : ∃ y_ : List Int, y_ = (t251.take y248.length ++ y248.drop t251.length) := ⟨_, rfl⟩
              replace H : (if 0 ≤ (wrap64 ((wrap64 ((t222.length : Int) - (t225.length : Int))) + 1)) then (if (wrap64 ((wrap64 ((t222.length : Int) - (t225.length : Int))) + 1) : Int).toNat ≤ 70368744177664 then ((some (List.replicate (wrap64 ((wrap64 ((t222.length : Int) - (t225.length : Int))) + 1) : Int).toNat 0 : List Int)).bind fun y255 => (nats_QuoRem.l0 k t244 t245 y254 y255 (wrap64 ((y255.length : Int) - 1)))) else (none)) else (none)) = some (r1, r2) := by first | (rw [hy254]; with_reducible exact H) | (have H2_ := (Option.bind_some _ _).symm.trans H; rw [hy254]; with_reducible exact H2_) | (have H2_ := (Option.bind_some _ _).symm.trans H; with_reducible exact H2_) | with_reducible exact H | (rw [hy254]; exact H) | exact H
              have Ny254 := Aside0.mk hy254
              clear hy254
              obtain ⟨ji37, hji37⟩ : ∃ j_ : Int, (wrap64 ((wrap64 ((t222.length : Int) - (t225.length : Int))) + 1)) = j_ := ⟨_, rfl⟩
              replace H : (if 0 ≤ (ji37) then (if (ji37 : Int).toNat ≤ 70368744177664 then ((some (List.replicate (ji37 : Int).toNat 0 : List Int)).bind fun y255 => (nats_QuoRem.l0 k t244 t245 y254 y255 (wrap64 ((y255.length : Int) - 1)))) else (none)) else (none)) = some (r1, r2) := by first | (rw [hji37] at H; exact H) | (simp only [hji37] at H ⊢; exact H)
              (try rw [hji37] at A3)
              (try rw [hji37] at A4)
              (try rw [hji37] at A5)
              (try rw [hji37] at A31)
              (try rw [hji37] at A32)
              (try rw [hji37] at A36)
              have hji37w : (IntKind.i64.wrap ((wrap64 ((t222.length : Int) - (t225.length : Int))) + 1)) = ji37 := (i64_w _).trans hji37
              by_cases c38 : 0 ≤ (ji37)
              · rw [if_pos c38] at H
                have c38b0 := eq_true c38
                have c38b1 : decide (0 ≤ (ji37)) = true := decide_eq_true c38
                clear c38
                by_cases c39 : (ji37 : Int).toNat ≤ 70368744177664
                · rw [if_pos c39] at H
                  have c39b0 := eq_true c39
                  have c39b1 : decide ((ji37 : Int).toNat ≤ 70368744177664) = true := decide_eq_true c39
                  clear c39
                  obtain ⟨y255, hy255⟩ : ∃ y_ : List Int, y_ = (List.replicate (ji37 : Int).toNat 0) := ⟨_, rfl⟩
                  replace H : (nats_QuoRem.l0 k t244 t245 y254 y255 (wrap64 ((y255.length : Int) - 1))) = some (r1, r2) := by first | (rw [hy255]; with_reducible exact H) | (have H2_ := (Option.bind_some _ _).symm.trans H; rw [hy255]; with_reducible exact H2_) | (have H2_ := (Option.bind_some _ _).symm.trans H; with_reducible exact H2_) | with_reducible exact H | (rw [hy255]; exact H) | exact H
                  have Ny255 := Aside0.mk hy255
                  clear hy255
                  have H' := Aside0.mk H
                  clear H
                  go_enter Try.func83, Try.ntmps83
                  go_wp2_with (first | ((with_reducible refine gate_callee (f := 108) rfl ?_); refine goesL_ (some 14) rfl rfl Try.func108 (by kernel_rfl) rfl #[.slice A0 l0.length c0] rfl (by (try simp only [List.map_toArray, List.map_cons, List.map_nil]); first | done | rfl | (simp only [List.length_drop, List.length_take]; rfl)) ?_; (with_reducible refine (nats_cut.calls k (fun k_ => k_ < w.heap.size) _ _ l0 t222 _ ?side1 A3.out).mono ?_); (case side1 => exact Kd.V_mk HC0.out (Kd.F_below (Kd.C_F (Kd.heap_int .u32) HR0.out) (by repeat (first | (with_reducible first | exact HB.out | apply below_alloc | apply pw_below_drewN | apply below_drew1) | exact HB.out)))); rintro e w40 ⟨v223, rfl, ho0, hb⟩; refine ⟨_, rfl, ?_⟩; have n0_ := Aside0.mk (Kd.V_lower (Kd.V_mono (ok' := fun k_ => True) ho0 (fun k_ hk_ => trivial)) (below_size (by repeat (first | (with_reducible first | exact HB.out | apply below_alloc | apply pw_below_drewN | apply below_drew1) | exact HB.out)))); have n1_ := Aside0.mk (below_step (by repeat (first | (with_reducible first | exact HB.out | apply below_alloc | apply pw_below_drewN | apply below_drew1) | exact HB.out)) hb); clear HB; have HO224 := n0_; have HB := n1_; clear n0_ n1_; (try clear hb); (try clear hb2); (try clear hk); (try clear hi); (try clear ho0)) | ((with_reducible refine gate_callee (f := 108) rfl ?_); refine goesL_ (some 16) rfl rfl Try.func108 (by kernel_rfl) rfl #[.slice A1 l1.length c1] rfl (by (try simp only [List.map_toArray, List.map_cons, List.map_nil]); first | done | rfl | (simp only [List.length_drop, List.length_take]; rfl)) ?_; (with_reducible refine (nats_cut.calls k (fun k_ => k_ < w.heap.size) _ _ l1 t225 _ ?side1 A4.out).mono ?_); (case side1 => exact Kd.V_mk HC1.out (Kd.F_below (Kd.C_F (Kd.heap_int .u32) HR1.out) (by repeat (first | (with_reducible first | exact HB.out | apply below_alloc | apply pw_below_drewN | apply below_drew1) | exact HB.out)))); rintro e w41 ⟨v226, rfl, ho0, hb⟩; refine ⟨_, rfl, ?_⟩; have n0_ := Aside0.mk (Kd.V_below (by (with_reducible repeat (first | apply Kd.V_alloc | apply Kd.V_drewN | apply Kd.V_drew)); exact HO224.out) hb); have n1_ := Aside0.mk (Kd.V_lower (Kd.V_mono (ok' := fun k_ => True) ho0 (fun k_ hk_ => trivial)) (below_size (by repeat (first | (with_reducible first | exact HB.out | apply below_alloc | apply pw_below_drewN | apply below_drew1) | exact HB.out)))); have n2_ := Aside0.mk (below_step (by repeat (first | (with_reducible first | exact HB.out | apply below_alloc | apply pw_below_drewN | apply below_drew1) | exact HB.out)) hb); clear HO224; clear HB; have HO224 := n0_; have HO227 := n1_; have HB := n2_; clear n0_ n1_ n2_; (try clear hb); (try clear hb2); (try clear hk); (try clear hi); (try clear ho0); obtain ⟨Ao42, co42, eo42⟩ := Kd.V_slice HO224.out; subst eo42; obtain ⟨Ao43, co43, eo43⟩ := Kd.V_slice HO227.out; subst eo43) | ((with_reducible refine gate_callee (f := 89) rfl ?_); refine goesL_ (some 19) rfl rfl Try.func89 (by kernel_rfl) rfl #[.slice Ao42 t222.length co42, .slice Ao43 t225.length co43] rfl (by (try simp only [List.map_toArray, List.map_cons, List.map_nil]); first | done | rfl | (simp only [List.length_drop, List.length_take]; rfl)) ?_; (with_reducible refine (nats_Cmp.calls k _ _ t222 _ _ t225 t228 _ ?side1 ?side2 ?side3 ?side4 A5.out).mono ?_); (case side1 => repeat (first | exact (Kd.V_reads' HO224.out).2.2 | (with_reducible refine Kd.C_alloc ?_ _) | (with_reducible refine Kd.C_drewN ?_ _) | (with_reducible refine Kd.C_drew ?_))); (case side2 => exact (Kd.V_reads' HO224.out).2.1); (case side3 => repeat (first | exact (Kd.V_reads' HO227.out).2.2 | (with_reducible refine Kd.C_alloc ?_ _) | (with_reducible refine Kd.C_drewN ?_ _) | (with_reducible refine Kd.C_drew ?_))); (case side4 => exact (Kd.V_reads' HO227.out).2.1); rintro e w44 ⟨rfl, hb⟩; refine ⟨_, rfl, ?_⟩; have n0_ := Aside0.mk (Kd.V_below (by (with_reducible repeat (first | apply Kd.V_alloc | apply Kd.V_drewN | apply Kd.V_drew)); exact HO224.out) hb); have n1_ := Aside0.mk (Kd.V_below (by (with_reducible repeat (first | apply Kd.V_alloc | apply Kd.V_drewN | apply Kd.V_drew)); exact HO227.out) hb); have n2_ := Aside0.mk (below_step (by repeat (first | (with_reducible first | exact HB.out | apply below_alloc | apply pw_below_drewN | apply below_drew1) | exact HB.out)) hb); clear HO224; clear HO227; clear HB; have HO224 := n0_; have HO227 := n1_; have HB := n2_; clear n0_ n1_ n2_; (try clear hb); (try clear hb2); (try clear hk); (try clear hi); have p243 : 0 ≤ ((ji28) : Int) := of_decide_eq_true (by first | (with_reducible assumption) | assumption); have q243 : (ji28) < (t225.length : Int) := of_decide_eq_true (by first | (with_reducible assumption) | assumption); obtain ⟨ad243, e243, hx243_0⟩ := Kd.at_int (Kd.V_reads' HO227.out).2.2 (ji28) p243 q243; cases e243; replace p243 := eq_true p243; replace q243 := eq_true q243) | ((with_reducible refine gate_callee (f := 111) rfl ?_); refine goesL_ (some 44) rfl rfl Try.func111 (by kernel_rfl) rfl #[.int .u32 (rd t225 (ji28))] rfl (by (try simp only [List.map_toArray, List.map_cons, List.map_nil]); first | done | (simp only [hji28]; rfl) | rfl | (simp only [List.length_drop, List.length_take]; rfl)) ?_; (with_reducible refine (bits_LeadingZeros32.calls (rd t225 (ji28)) t244 _ A31.out).mono ?_); rintro e w' ⟨rfl, ⟨nd, rfl⟩⟩; refine ⟨_, rfl, ?_⟩) | ((with_reducible refine gate_callee (f := 112) rfl ?_); refine goesL_ (some 47) rfl rfl Try.func112 (by kernel_rfl) rfl #[.slice (some ad243) t225.length co43, .int .i64 t244] rfl (by (try simp only [List.map_toArray, List.map_cons, List.map_nil]); first | done | rfl | (simp only [List.length_drop, List.length_take]; rfl)) ?_; (with_reducible refine (nats_Shl.calls k _ _ t225 t244 t245 _ ?side1 ?side2 A32.out).mono ?_); (case side1 => repeat (first | exact (Kd.V_reads' HO227.out).2.2 | (with_reducible refine Kd.C_alloc ?_ _) | (with_reducible refine Kd.C_drewN ?_ _) | (with_reducible refine Kd.C_drew ?_))); (case side2 => exact (Kd.V_reads' HO227.out).2.1); rintro e w45 ⟨v246, rfl, ho0, hb⟩; refine ⟨_, rfl, ?_⟩; have n0_ := Aside0.mk (Kd.V_elder' (by (with_reducible repeat (first | apply Kd.V_alloc | apply Kd.V_drewN | apply Kd.V_drew)); exact HO224.out) (Kd.R_base ho0) hb); have n1_ := Aside0.mk (Kd.V_elder' (by (with_reducible repeat (first | apply Kd.V_alloc | apply Kd.V_drewN | apply Kd.V_drew)); exact HO227.out) (Kd.R_base ho0) hb); have n2_ := Aside0.mk (Kd.R_lower ho0 (below_size (by repeat (first | (with_reducible first | exact HB.out | apply below_alloc | apply pw_below_drewN | apply below_drew1) | exact HB.out)))); have n3_ := Aside0.mk (below_step (by repeat (first | (with_reducible first | exact HB.out | apply below_alloc | apply pw_below_drewN | apply below_drew1) | exact HB.out)) hb); clear HO224; clear HO227; clear HB; have HO224 := n0_; have HO227 := n1_; have HO247 := n2_; have HB := n3_; clear n0_ n1_ n2_ n3_; (try clear hb); (try clear hb2); (try clear hk); (try clear hi); (try clear ho0)) | ((with_reducible refine gate_dst (N := 51) rfl ?_); refine Kd.R_make (Kd.int .u32) _ 47 rfl (N := 51) rfl 22 _ _ rfl ji33 rfl rfl Try.underlying22 (.int .u32 0) 4 info47 rfl (by decide) (by omega) 0 (ok := fun _ => True) (okp := fun _ => True) rfl (fun _ hk => hk) trivial (of_decide_eq_true (by first | (with_reducible assumption) | assumption)) (Nat.le_trans (Nat.mul_le_mul_right _ (of_decide_eq_true (by first | (with_reducible assumption) | assumption) : ji33.toNat ≤ 70368744177664)) (by omega)) (Below.refl _ _) (Nat.le_refl _) ?_; intro v249 w46 ho47 hb hg_ hnew_; clear hg_ hnew_; (first | rw [← Ny248.out] at ho47 | (simp only [Int.reduceToNat] at ho47; rw [← Ny248.out] at ho47)); have n0_ := Aside0.mk (Kd.V_elder' (by (with_reducible repeat (first | apply Kd.V_alloc | apply Kd.V_drewN | apply Kd.V_drew)); exact HO224.out) (Kd.R_base ho47) hb); have n1_ := Aside0.mk (Kd.V_elder' (by (with_reducible repeat (first | apply Kd.V_alloc | apply Kd.V_drewN | apply Kd.V_drew)); exact HO227.out) (Kd.R_base ho47) hb); have n2_ := Aside0.mk (Kd.R_elder' (by (with_reducible repeat (first | apply Kd.R_alloc | apply Kd.R_drewN | apply Kd.R_drew)); exact HO247.out) (Kd.R_base ho47) hb); have n3_ := Aside0.mk (Kd.R_lower (Kd.R_new' ho47 (Kd.R_lt (by (with_reducible repeat (first | apply Kd.R_alloc | apply Kd.R_drewN | apply Kd.R_drew)); exact HO247.out))) (below_size (by repeat (first | (with_reducible first | exact HB.out | apply below_alloc | apply pw_below_drewN | apply below_drew1) | exact HB.out)))); have n4_ := Aside0.mk (below_step (by repeat (first | (with_reducible first | exact HB.out | apply below_alloc | apply pw_below_drewN | apply below_drew1) | exact HB.out)) hb); clear HO224; clear HO227; clear HO247; clear HB; have HO224 := n0_; have HO227 := n1_; have HO247 := n2_; have HO250 := n3_; have HB := n4_; clear n0_ n1_ n2_ n3_ n4_; clear hb ho47) | ((with_reducible refine gate_callee (f := 112) rfl ?_); refine goesL_ (some 55) rfl rfl Try.func112 (by kernel_rfl) rfl #[.slice Ao42 t222.length co42, .int .i64 t244] rfl (by (try simp only [List.map_toArray, List.map_cons, List.map_nil]); first | done | rfl | (simp only [List.length_drop, List.length_take]; rfl)) ?_; (with_reducible refine (nats_Shl.calls k _ _ t222 t244 t251 _ ?side1 ?side2 A36.out).mono ?_); (case side1 => repeat (first | exact (Kd.V_reads' HO224.out).2.2 | (with_reducible refine Kd.C_alloc ?_ _) | (with_reducible refine Kd.C_drewN ?_ _) | (with_reducible refine Kd.C_drew ?_))); (case side2 => exact (Kd.V_reads' HO224.out).2.1); rintro e w48 ⟨v252, rfl, ho0, hb⟩; refine ⟨_, rfl, ?_⟩; have n0_ := Aside0.mk (Kd.V_elder' (by (with_reducible repeat (first | apply Kd.V_alloc | apply Kd.V_drewN | apply Kd.V_drew)); exact HO224.out) (Kd.R_base ho0) hb); have n1_ := Aside0.mk (Kd.V_elder' (by (with_reducible repeat (first | apply Kd.V_alloc | apply Kd.V_drewN | apply Kd.V_drew)); exact HO227.out) (Kd.R_base ho0) hb); have n2_ := Aside0.mk (Kd.R_elder' (by (with_reducible repeat (first | apply Kd.R_alloc | apply Kd.R_drewN | apply Kd.R_drew)); exact HO247.out) (Kd.R_base ho0) hb); have n3_ := Aside0.mk (Kd.R_elder' (by (with_reducible repeat (first | apply Kd.R_alloc | apply Kd.R_drewN | apply Kd.R_drew)); exact HO250.out) (Kd.R_base ho0) hb); have n4_ := Aside0.mk (Kd.R_lower (Kd.R_new' (Kd.R_new' ho0 (Kd.R_lt (by (with_reducible repeat (first | apply Kd.R_alloc | apply Kd.R_drewN | apply Kd.R_drew)); exact HO247.out))) (Kd.R_lt (by (with_reducible repeat (first | apply Kd.R_alloc | apply Kd.R_drewN | apply Kd.R_drew)); exact HO250.out))) (below_size (by repeat (first | (with_reducible first | exact HB.out | apply below_alloc | apply pw_below_drewN | apply below_drew1) | exact HB.out)))); have n5_ := Aside0.mk (below_step (by repeat (first | (with_reducible first | exact HB.out | apply below_alloc | apply pw_below_drewN | apply below_drew1) | exact HB.out)) hb); clear HO224; clear HO227; clear HO247; clear HO250; clear HB; have HO224 := n0_; have HO227 := n1_; have HO247 := n2_; have HO250 := n3_; have HO253 := n4_; have HB := n5_; clear n0_ n1_ n2_ n3_ n4_ n5_; (try clear hb); (try clear hb2); (try clear hk); (try clear hi); (try clear ho0); obtain ⟨Ao51, co51, eo51⟩ := Kd.R_slice HO253.out; subst eo51; obtain ⟨Ao52, co52, eo52⟩ := Kd.R_slice HO250.out; subst eo52; have n_ := Aside0.mk (Kd.R_mono (ok' := (fun k_ => some k_ ≠ (v246 : Value).ownBlock ∧ some k_ ≠ (.slice Ao51 t251.length co51 : Value).ownBlock)) HO250.out (fun k_ hk => ⟨hk.1.2, hk.2⟩)); clear HO250; have HO250 := n_; clear n_) | ((with_reducible refine gate_builtin (b := .copy) (xs := #[.tmp 52, .tmp 55]) rfl ?_); refine Mine.R_copy (k := .u32) (w0 := w) w.heap.size 47 rfl (.tmp 52) (.tmp 55) 22 rfl Try.underlying22 (.int .u32 0) 4 info47 (.slice Ao52 y248.length co52) y248 t251 ?cA ?cc (ok := ?cok) (hs := ?cs) (hx := ?cx) ?cO ?cR ?cB ?_; (case cs => rfl); (case cx => rfl); (case cO => exact (by (with_reducible repeat (first | apply Kd.R_alloc | apply Kd.R_drewN | apply Kd.R_drew)); exact HO250.out)); (case cR => repeat (first | exact (Kd.R_reads' HO253.out).2.2 | (with_reducible refine Kd.C_alloc ?_ _) | (with_reducible refine Kd.C_drewN ?_ _) | (with_reducible refine Kd.C_drew ?_))); (case cB => exact (by repeat (first | (with_reducible first | exact HB.out | apply below_alloc | apply pw_below_drewN | apply below_drew1) | exact HB.out))); intro w50 ho hb hg; rw [← Ny254.out] at ho; have n0_ := Aside0.mk (Kd.V_afterv (v := (.slice Ao52 y248.length co52)) (v1 := (.slice Ao52 y248.length co52)) (ok := (fun k_ => some k_ ≠ (v246 : Value).ownBlock ∧ some k_ ≠ (.slice Ao51 t251.length co51 : Value).ownBlock)) (by (with_reducible repeat (first | apply Kd.V_alloc | apply Kd.V_drewN | apply Kd.V_drew)); exact Kd.V_mono HO224.out (fun _ hk => ⟨⟨hk.1.1.2, hk.2⟩, hk.1.2⟩)) hg (.inl rfl)); have n1_ := Aside0.mk (Kd.V_afterv (v := (.slice Ao52 y248.length co52)) (v1 := (.slice Ao52 y248.length co52)) (ok := (fun k_ => some k_ ≠ (v246 : Value).ownBlock ∧ some k_ ≠ (.slice Ao51 t251.length co51 : Value).ownBlock)) (by (with_reducible repeat (first | apply Kd.V_alloc | apply Kd.V_drewN | apply Kd.V_drew)); exact Kd.V_mono HO227.out (fun _ hk => ⟨⟨hk.1.1.2, hk.2⟩, hk.1.2⟩)) hg (.inl rfl)); have n2_ := Aside0.mk (Kd.R_after (v := (.slice Ao52 y248.length co52)) (v1 := (.slice Ao52 y248.length co52)) (ok := (fun k_ => some k_ ≠ (.slice Ao51 t251.length co51 : Value).ownBlock)) (by (with_reducible repeat (first | apply Kd.R_alloc | apply Kd.R_drewN | apply Kd.R_drew)); exact Kd.R_mono HO247.out (fun _ hk => ⟨hk.2, hk.1.2⟩)) hg (.inl rfl)); have n3_ := Aside0.mk (ho); have n4_ := Aside0.mk (Kd.R_after (v := (.slice Ao52 y248.length co52)) (v1 := (.slice Ao52 y248.length co52)) (ok := (fun k_ => some k_ ≠ (v246 : Value).ownBlock)) (by (with_reducible repeat (first | apply Kd.R_alloc | apply Kd.R_drewN | apply Kd.R_drew)); exact Kd.R_mono HO253.out (fun _ hk => ⟨hk.1.2, hk.2⟩)) hg (.inl rfl)); have n5_ := Aside0.mk (hb); clear HO224; clear HO227; clear HO247; clear HO250; clear HO253; clear HB; have HO224 := n0_; have HO227 := n1_; have HO247 := n2_; have HO250 := n3_; have HO253 := n4_; have HB := n5_; clear n0_ n1_ n2_ n3_ n4_ n5_; clear ho hb hg) | ((with_reducible refine gate_dst (N := 63) rfl ?_); refine Kd.R_make (Kd.int .u32) _ 47 rfl (N := 63) rfl 22 _ _ rfl ji37 rfl rfl Try.underlying22 (.int .u32 0) 4 info47 rfl (by decide) (by omega) 0 (ok := fun _ => True) (okp := fun _ => True) rfl (fun _ hk => hk) trivial (of_decide_eq_true (by first | (with_reducible assumption) | assumption)) (Nat.le_trans (Nat.mul_le_mul_right _ (of_decide_eq_true (by first | (with_reducible assumption) | assumption) : ji37.toNat ≤ 70368744177664)) (by omega)) (Below.refl _ _) (Nat.le_refl _) ?_; intro v256 w53 ho54 hb hg_ hnew_; clear hg_ hnew_; (first | rw [← Ny255.out] at ho54 | (simp only [Int.reduceToNat] at ho54; rw [← Ny255.out] at ho54)); have n0_ := Aside0.mk (Kd.V_elder' (by (with_reducible repeat (first | apply Kd.V_alloc | apply Kd.V_drewN | apply Kd.V_drew)); exact HO224.out) (Kd.R_base ho54) hb); have n1_ := Aside0.mk (Kd.V_elder' (by (with_reducible repeat (first | apply Kd.V_alloc | apply Kd.V_drewN | apply Kd.V_drew)); exact HO227.out) (Kd.R_base ho54) hb); have n2_ := Aside0.mk (Kd.R_elder' (by (with_reducible repeat (first | apply Kd.R_alloc | apply Kd.R_drewN | apply Kd.R_drew)); exact HO247.out) (Kd.R_base ho54) hb); have n3_ := Aside0.mk (Kd.R_elder' (by (with_reducible repeat (first | apply Kd.R_alloc | apply Kd.R_drewN | apply Kd.R_drew)); exact HO250.out) (Kd.R_base ho54) hb); have n4_ := Aside0.mk (Kd.R_elder' (by (with_reducible repeat (first | apply Kd.R_alloc | apply Kd.R_drewN | apply Kd.R_drew)); exact HO253.out) (Kd.R_base ho54) hb); have n5_ := Aside0.mk (Kd.R_lower (Kd.R_new' (Kd.R_new' (Kd.R_new' ho54 (Kd.R_lt (by (with_reducible repeat (first | apply Kd.R_alloc | apply Kd.R_drewN | apply Kd.R_drew)); exact HO247.out))) (Kd.R_lt (by (with_reducible repeat (first | apply Kd.R_alloc | apply Kd.R_drewN | apply Kd.R_drew)); exact HO250.out))) (Kd.R_lt (by (with_reducible repeat (first | apply Kd.R_alloc | apply Kd.R_drewN | apply Kd.R_drew)); exact HO253.out))) (below_size (by repeat (first | (with_reducible first | exact HB.out | apply below_alloc | apply pw_below_drewN | apply below_drew1) | exact HB.out)))); have n6_ := Aside0.mk (below_step (by repeat (first | (with_reducible first | exact HB.out | apply below_alloc | apply pw_below_drewN | apply below_drew1) | exact HB.out)) hb); clear HO224; clear HO227; clear HO247; clear HO250; clear HO253; clear HB; have HO224 := n0_; have HO227 := n1_; have HO247 := n2_; have HO250 := n3_; have HO253 := n4_; have HO257 := n5_; have HB := n6_; clear n0_ n1_ n2_ n3_ n4_ n5_ n6_; clear hb ho54; obtain ⟨Ao55, co55, eo55⟩ := Kd.R_slice HO257.out; subst eo55))
                  go_loopg [12] k (fun kq v12 w' => ∃ (x10_1 : List Int) (x11_1 : List Int) (x12_1 : Int), v12 = .int .i64 x12_1 ∧ Aside0 (nats_QuoRem.l0 kq t244 t245 x10_1 x11_1 x12_1 = some (r1, r2)) ∧ Aside0 (kq ≤ k) ∧ Aside0 (Kd.R (Kd.int .u32) 47 w' w.heap.size (fun k_ => some k_ ≠ ((.slice Ao52 y248.length co52) : Value).ownBlock ∧ some k_ ≠ ((.slice Ao55 y255.length co55) : Value).ownBlock) v246 t245) ∧ Aside0 (Kd.R (Kd.int .u32) 47 w' w.heap.size (fun k_ => some k_ ≠ (v246 : Value).ownBlock ∧ some k_ ≠ ((.slice Ao55 y255.length co55) : Value).ownBlock) (.slice Ao52 y248.length co52) x10_1) ∧ Aside0 (Kd.R (Kd.int .u32) 47 w' w.heap.size (fun k_ => some k_ ≠ (v246 : Value).ownBlock ∧ some k_ ≠ ((.slice Ao52 y248.length co52) : Value).ownBlock) (.slice Ao55 y255.length co55) x11_1) ∧ Aside0 (Below w.heap.size w w'))
                  case atStart => exact ⟨(y254), (y255), (wrap64 ((y255.length : Int) - 1)), (by first | rfl | (simp; done) | (simp [*]; done)), H', ⟨Nat.le_refl _⟩, ⟨by (with_reducible repeat (first | apply Kd.R_alloc | apply Kd.R_drewN | apply Kd.R_drew)); exact Kd.R_mono HO247.out (fun _ hk => ⟨hk.1.2, hk.2⟩)⟩, ⟨by (with_reducible repeat (first | apply Kd.R_alloc | apply Kd.R_drewN | apply Kd.R_drew)); exact Kd.R_mono HO250.out (fun _ hk => ⟨hk.1.1, hk.2⟩)⟩, ⟨by (with_reducible repeat (first | apply Kd.R_alloc | apply Kd.R_drewN | apply Kd.R_drew)); exact Kd.R_mono HO257.out (fun _ hk => ⟨hk.1.1.2, hk.1.2⟩)⟩, ⟨by repeat (first | (with_reducible first | exact HB.out | apply below_alloc | apply pw_below_drewN | apply below_drew1) | exact HB.out)⟩⟩
                  case round =>
                    clear H'
                    try clear c1
                    try clear c2
                    try clear p2
                    try clear q2
                    try clear hx2
                    try clear qi2
                    try clear c3
                    try clear c6
                    try clear c6b0
                    try clear p6
                    try clear c8
                    try clear c9
                    try clear c10
                    try clear c11
                    try clear c14
                    try clear c14b0
                    try clear c14b1
                    try clear c15
                    try clear c15b0
                    try clear c15b1
                    try clear p23
                    try clear q23
                    try clear hx23
                    try clear qi23
                    try clear p24
                    try clear q24
                    try clear hx24
                    try clear c29
                    try clear c29b0
                    try clear c30
                    try clear c30b0
                    try clear c34
                    try clear c34b0
                    try clear c34b1
                    try clear c35
                    try clear c35b0
                    try clear c35b1
                    try clear c38
                    try clear c38b0
                    try clear c38b1
                    try clear c39
                    try clear c39b0
                    try clear c39b1
                    try clear hx232_0
                    try clear hx243_0
                    try clear p232
                    try clear p243
                    try clear q232
                    try clear q243
                    obtain ⟨x10_1, x11_1, x12_1, rfl, HA, HK1, HO_9, HO_10, HO_11, HB⟩ := hrel
                    have hl10_1 := (Kd.R_reads' HO_10.out).1
                    rw [hl10_1] at HO_10
                    (try simp only [hl10_1])
                    (try simp only [hl10_1] at HO_9)
                    (try simp only [hl10_1] at HO_11)
                    have hl11_1 := (Kd.R_reads' HO_11.out).1
                    rw [hl11_1] at HO_11
                    (try simp only [hl11_1])
                    (try simp only [hl11_1] at HO_9)
                    (try simp only [hl11_1] at HO_10)
                    cases gk with
                    | zero => exact absurd HA.out (by simp [nats_QuoRem.l0])
                    | succ k1 =>
                      have H := HA.out
                      clear HA
                      simp only [nats_QuoRem.l0] at H
                      by_cases c56 : x12_1 ≥ 0
                      · rw [if_pos c56] at H
                        have c56b0 : decide (0 ≤ x12_1) = true := decide_eq_true c56
                        clear c56
                        by_cases c57 : 0 ≤ x12_1
                        · rw [if_pos c57] at H
                          have c57b0 := eq_true c57
                          have c57b1 : decide (0 ≤ x12_1) = true := decide_eq_true c57
                          clear c57
                          by_cases c58 : x12_1 < (wrap64 ((wrap64 (x12_1 + (t245.length : Int))) + 1))
                          · rw [if_pos c58] at H
                            have c58b0 := eq_true c58
                            have c58b1 : decide (x12_1 < (wrap64 ((wrap64 (x12_1 + (t245.length : Int))) + 1))) = true := decide_eq_true c58
                            by_cases c59 : (wrap64 ((wrap64 (x12_1 + (t245.length : Int))) + 1)) ≤ (x10_1.length : Int)
                            · rw [if_pos c59] at H
                              have c59b0 := eq_true c59
                              have c59b1 : decide ((wrap64 ((wrap64 (x12_1 + (t245.length : Int))) + 1)) ≤ (x10_1.length : Int)) = true := decide_eq_true c59
                              replace H := Option.bind_eq_some_iff.mp H
                              obtain ⟨⟨t258, t259⟩, A600, H⟩ := H
                              replace H : (if x12_1 < (x11_1.length : Int) then (nats_QuoRem.l0 k1 t244 t245 t259 (x11_1.set (x12_1 : Int).toNat t258) (wrap64 (x12_1 - 1))) else (none)) = some (r1, r2) := H
                              have A60 := Aside0.mk A600
                              clear A600
                              by_cases c61 : x12_1 < (x11_1.length : Int)
                              · rw [if_pos c61] at H
                                have c61b0 : decide (x12_1 < (x11_1.length : Int)) = true := decide_eq_true c61
                                (try (have c61b0hl10_1 := c61b0; rw [hl10_1] at c61b0hl10_1))
                                (try (have c61b0hl11_1 := c61b0; rw [hl11_1] at c61b0hl11_1))
                                clear c61
                                obtain ⟨y260, hy260⟩ : ∃ y_ : List Int, y_ = (x11_1.set (x12_1 : Int).toNat t258) := ⟨_, rfl⟩
                                replace H : (nats_QuoRem.l0 k1 t244 t245 t259 y260 (wrap64 (x12_1 - 1))) = some (r1, r2) := by first | (rw [hy260]; with_reducible exact H) | (have H2_ := (Option.bind_some _ _).symm.trans H; rw [hy260]; with_reducible exact H2_) | (have H2_ := (Option.bind_some _ _).symm.trans H; with_reducible exact H2_) | with_reducible exact H | (rw [hy260]; exact H) | exact H
                                have Ny260 := Aside0.mk hy260
                                clear hy260
                                have H' := Aside0.mk H
                                clear H
                                obtain ⟨Ao63, co63, eo63⟩ := Kd.R_slice HO_9.out
                                subst eo63
                                have p64 : 0 ≤ (x12_1 : Int) := of_decide_eq_true (by first | (with_reducible assumption) | assumption)
                                have ql64 : (x12_1 : Int) < ((wrap64 ((wrap64 (x12_1 + (t245.length : Int))) + 1)) : Int) := of_decide_eq_true (by first | (with_reducible assumption) | assumption)
                                have q64 : ((wrap64 ((wrap64 (x12_1 + (t245.length : Int))) + 1)) : Int) ≤ ((x10_1.length : Int) : Int) := of_decide_eq_true (by first | (with_reducible assumption) | assumption)
                                obtain ⟨go64, co64, eo64, gb64, gl64, cl64, HG64⟩ := Kd.R_form HO_10.out (by omega)
                                (first | cases eo64 | (injection eo64 with ea_ en_ ec_; (first | subst ea_ | (injection ea_ with ea_; subst ea_)); subst ec_; clear en_))
                                have GB64 := Aside0.mk gb64
                                have GG64 := Aside0.mk HG64
                                clear gb64 gl64 HG64
                                obtain ⟨i064, hi064, _, hsz64, _⟩ := info_parts info47
                                have hcut64 := Mine.seg_cut (P := Try.prog) 22 47 Try.underlying22 hi064 hsz64 go64 x10_1.length co52 x12_1 (wrap64 ((wrap64 (x12_1 + (t245.length : Int))) + 1)) p64 ql64 q64 (Kd.R_reads' HO_10.out).2.1
                                clear hi064 hsz64
                                replace p64 := eq_true p64
                                replace ql64 := eq_true ql64
                                replace q64 := eq_true q64
                                go_wp2_with (first | ((with_reducible refine gate_callee (f := 113) rfl ?_); refine goesL_ (some 82) rfl rfl Try.func113 (by kernel_rfl) rfl #[.slice (some ⟨go64, x12_1.toNat, none⟩) ((wrap64 ((wrap64 (x12_1 + (t245.length : Int))) + 1)).toNat - x12_1.toNat) (co52 - x12_1.toNat), .slice Ao63 t245.length co63] rfl (by (try simp only [List.map_toArray, List.map_cons, List.map_nil]); first | done | rfl | (simp only [List.length_drop, List.length_take]; rfl)) ?_; (refine (nats_digitat.calls k1 (fun k_ => some k_ = (.slice (some ⟨go64, 0, none⟩) x10_1.length co52 : Value).ownBlock) (.slice (some ⟨go64, 0, none⟩) x10_1.length co52) x10_1 x12_1 (wrap64 ((wrap64 (x12_1 + (t245.length : Int))) + 1)) _ _ t245 t258 t259 w _ ?side1 ?side2 ?side3 ?side4 A60.out).mono ?_); (case side1 => repeat (first | (with_reducible first | exact HB.out | apply below_alloc | apply pw_below_drewN | apply below_drew1) | exact HB.out)); (case side2 => exact Kd.R_tight rfl HO_10.out); (case side3 => exact Kd.C_kept_own (HO_9.out) (fun k_ hk_ hs_ => (hk_.1) hs_)); (case side4 => exact (Kd.R_reads' HO_9.out).2.1); rintro e w65 ⟨rfl, hy0, hb, hkp⟩; refine ⟨_, rfl, ?_⟩; have n0_ := Aside0.mk (Kd.R_mono (ok' := fun k_ => some k_ ≠ (.slice (some ⟨go64, 0, none⟩) x10_1.length co52 : Value).ownBlock ∧ some k_ ≠ (.slice Ao55 x11_1.length co55 : Value).ownBlock) (Kd.R_keptB (HO_9.out) hkp (fun k_ hk_ hs_ => (hk_.1) hs_)) (fun k_ hk_ => ⟨hk_.1.1, hk_.1.2⟩)); have n1_ := Aside0.mk (Kd.R_reok rfl hy0 (fun k_ e_ => HO_10.out.1 k_ e_)); have n2_ := Aside0.mk (Kd.R_mono (ok' := fun k_ => some k_ ≠ (.slice Ao63 t245.length co63 : Value).ownBlock ∧ some k_ ≠ (.slice (some ⟨go64, 0, none⟩) x10_1.length co52 : Value).ownBlock) (Kd.R_keptB (HO_11.out) hkp (fun k_ hk_ hs_ => (hk_.2) hs_)) (fun k_ hk_ => ⟨hk_.1.1, hk_.1.2⟩)); have n3_ := Aside0.mk (hb); clear HO_9; clear HO_10; clear HO_11; clear HB; have HO_9 := n0_; have HO_10 := n1_; have HO_11 := n2_; have HB := n3_; clear n0_ n1_ n2_ n3_; (try clear hb); (try clear hkp); (try clear hy0); have p62 : 0 ≤ (x12_1 : Int) := of_decide_eq_true (by first | (with_reducible assumption) | assumption); have q62 : (x12_1 : Int) < ((x11_1.length : Int) : Int) := of_decide_eq_true (by first | (with_reducible assumption) | assumption); obtain ⟨go62, co62, eo62, gb62, gl62, cl62, HG62⟩ := Kd.R_form HO_11.out (by omega); (first | cases eo62 | (injection eo62 with ea_ en_ ec_; (first | subst ea_ | (injection ea_ with ea_; subst ea_)); subst ec_; clear en_)); have GB62 := Aside0.mk gb62; have GG62 := Aside0.mk HG62; clear gb62 gl62 HG62; obtain ⟨hx62_0, hf62_0⟩ := Kd.R_celln 0 HO_11.out (x12_1 : Int) p62 q62; replace p62 := eq_true p62; replace q62 := eq_true q62; obtain ⟨hy66_, hz66_⟩ := Kd.R_celln 0 HO_11.out (x12_1 : Int) (of_decide_eq_true (by first | (with_reducible assumption) | assumption)) (of_decide_eq_true (by first | (with_reducible assumption) | assumption)); have HP66 := Kd.R_putg HO_11.out (x12_1 : Int) t258) | ((with_reducible refine gate_store (t := 47) (p := 83) rfl ?_); refine store_event (t := 47) (p := 83) (v := ?vo_w67) (w1 := (w65.setCell ⟨go62, (x12_1 : Int).toNat, none⟩ (.int .u32 t258))) ?hg ?ho ?hn ?hr ?_; (case ho => rfl); (case hg => rfl); (case hn => rfl); (case hr => first | (go_simp; done) | (go_simp; rfl)); intro w67 hw; have hg : w65.grownBy w67 (some go62) := (by rw [hw]; exact HP66.2); have hp_ : Kd.R (Kd.int .u32) 47 w67 w.heap.size (fun k_ => some k_ ≠ (.slice Ao63 t245.length co63 : Value).ownBlock ∧ some k_ ≠ (.slice (some ⟨go64, 0, none⟩) x10_1.length co52 : Value).ownBlock) (.slice (some ⟨go62, 0, none⟩) x11_1.length co55) y260 := (by rw [hw, Ny260.out]; exact HP66.1); clear HP66; have n0_ := Aside0.mk (Kd.R_after (v := (.slice (some ⟨go62, 0, none⟩) x11_1.length co55)) (v1 := (.slice (some ⟨go62, 0, none⟩) x11_1.length co55)) (ok := (fun k_ => some k_ ≠ (.slice (some ⟨go64, 0, none⟩) x10_1.length co52 : Value).ownBlock)) (by (with_reducible repeat (first | apply Kd.R_alloc | apply Kd.R_drewN | apply Kd.R_drew)); exact HO_9.out) hg (.inl rfl)); have n1_ := Aside0.mk (Kd.R_after (v := (.slice (some ⟨go62, 0, none⟩) x11_1.length co55)) (v1 := (.slice (some ⟨go62, 0, none⟩) x11_1.length co55)) (ok := (fun k_ => some k_ ≠ (.slice Ao63 t245.length co63 : Value).ownBlock)) (by (with_reducible repeat (first | apply Kd.R_alloc | apply Kd.R_drewN | apply Kd.R_drew)); exact HO_10.out) hg (.inl rfl)); have n2_ := Aside0.mk (hp_); have n3_ := Aside0.mk ((by rw [hw]; exact below_set (HB.out) GB62.out : Below w.heap.size w w67)); clear HO_9; clear HO_10; clear HO_11; clear HB; have HO_9 := n0_; have HO_10 := n1_; have HO_11 := n2_; have HB := n3_; clear n0_ n1_ n2_ n3_; clear hg hw hp_))
                                (try simp only [← hl10_1, ← hl11_1])
                                go_roundg k1
                                case measure => have := HK1.out; omega
                                case rel => exact ⟨(t259), (y260), (wrap64 (x12_1 - 1)), (by first | rfl | (simp; done) | (simp [*]; done)), H', ⟨by have := HK1.out; omega⟩, ⟨by (try simp only [hl10_1]); (try simp only [hl11_1]); (with_reducible repeat (first | apply Kd.R_alloc | apply Kd.R_drewN | apply Kd.R_drew)); exact HO_9.out⟩, ⟨by (try simp only [hl10_1]); (try simp only [hl11_1]); (with_reducible repeat (first | apply Kd.R_alloc | apply Kd.R_drewN | apply Kd.R_drew)); exact HO_10.out⟩, ⟨by (try simp only [hl10_1]); (try simp only [hl11_1]); (with_reducible repeat (first | apply Kd.R_alloc | apply Kd.R_drewN | apply Kd.R_drew)); exact HO_11.out⟩, ⟨by repeat (first | (with_reducible first | exact HB.out | apply below_alloc | apply pw_below_drewN | apply below_drew1) | exact HB.out)⟩⟩
                              · rw [if_neg c61] at H
                                exact absurd H (by simp)
                            · rw [if_neg c59] at H
                              exact absurd H (by simp)
                          · rw [if_neg c58] at H
                            exact absurd H (by simp)
                        · rw [if_neg c57] at H
                          exact absurd H (by simp)
                      · rw [if_neg c56] at H
                        have c56b0 : decide (0 ≤ x12_1) = false := decide_eq_false c56
                        clear c56
                        replace H := Option.bind_eq_some_iff.mp H
                        obtain ⟨t261, A680, H⟩ := H
                        replace H : ((nats_Shr.f k1 x10_1 t244).bind fun t264 => (some (t261, t264))) = some (r1, r2) := H
                        have A68 := Aside0.mk A680
                        clear A680
                        replace H := Option.bind_eq_some_iff.mp H
                        obtain ⟨t264, A690, H⟩ := H
                        replace H : (some (t261, t264)) = some (r1, r2) := H
                        have A69 := Aside0.mk A690
                        clear A690
                        simp only [Option.some.injEq, Prod.mk.injEq] at H
                        obtain ⟨rfl, rfl⟩ := H
                        go_wp2_with (first | ((with_reducible refine gate_callee (f := 108) rfl ?_); refine goesL_ (some 85) rfl rfl Try.func108 (by kernel_rfl) rfl #[.slice Ao55 x11_1.length co55] rfl (by (try simp only [List.map_toArray, List.map_cons, List.map_nil]); first | done | rfl | (simp only [List.length_drop, List.length_take]; rfl)) ?_; (with_reducible refine (nats_cuto.calls k1 (fun k_ => some k_ = (.slice Ao55 x11_1.length co55 : Value).ownBlock) (.slice Ao55 x11_1.length co55) x11_1 t261 w _ ?side1 ?side2 A68.out).mono ?_); (case side1 => repeat (first | (with_reducible first | exact HB.out | apply below_alloc | apply pw_below_drewN | apply below_drew1) | exact HB.out)); (case side2 => exact Kd.R_tight rfl HO_11.out); rintro e w70 ⟨v262, rfl, ho0, hb, hkp⟩; refine ⟨_, rfl, ?_⟩; have n0_ := Aside0.mk (Kd.R_mono (ok' := fun k_ => some k_ ≠ (.slice Ao52 x10_1.length co52 : Value).ownBlock ∧ some k_ ≠ (v262 : Value).ownBlock) (Kd.R_keptB (HO_9.out) hkp (fun k_ hk_ hs_ => (hk_.2) hs_)) (fun k_ hk_ => ⟨hk_.1.1, fun e_ => Or.elim (ho0.1 k_ e_.symm) (fun hs_ => hk_.2.1 hs_) (fun hn_ => Nat.not_le.2 hk_.2.2 hn_)⟩)); have n1_ := Aside0.mk (Kd.R_mono (ok' := fun k_ => some k_ ≠ (v246 : Value).ownBlock ∧ some k_ ≠ (v262 : Value).ownBlock) (Kd.R_keptB (HO_10.out) hkp (fun k_ hk_ hs_ => (hk_.2) hs_)) (fun k_ hk_ => ⟨hk_.1.1, fun e_ => Or.elim (ho0.1 k_ e_.symm) (fun hs_ => hk_.2.1 hs_) (fun hn_ => Nat.not_le.2 hk_.2.2 hn_)⟩)); have n2_ := Aside0.mk (Kd.R_mono (ok' := fun k_ => some k_ ≠ (v246 : Value).ownBlock ∧ some k_ ≠ (.slice Ao52 x10_1.length co52 : Value).ownBlock) ho0 (fun k_ hk_ => ⟨Or.elim hk_ (fun hs_ => fun e_ => (((HO_9.out).1 k_ e_.symm).2) hs_) (fun hn_ => (Kd.fresh' (Kd.R_lt (by (with_reducible repeat (first | apply Kd.R_alloc | apply Kd.R_drewN | apply Kd.R_drew)); exact HO_9.out)) k_ hn_)), Or.elim hk_ (fun hs_ => fun e_ => (((HO_10.out).1 k_ e_.symm).2) hs_) (fun hn_ => (Kd.fresh' (Kd.R_lt (by (with_reducible repeat (first | apply Kd.R_alloc | apply Kd.R_drewN | apply Kd.R_drew)); exact HO_10.out)) k_ hn_))⟩)); have n3_ := Aside0.mk (hb); clear HO_9; clear HO_10; clear HB; clear HO_11; have HO_9 := n0_; have HO_10 := n1_; have HO263 := n2_; have HB := n3_; clear n0_ n1_ n2_ n3_; (try clear hb); (try clear hkp); (try clear ho0)) | ((with_reducible refine gate_callee (f := 114) rfl ?_); refine goesL_ (some 88) rfl rfl Try.func114 (by kernel_rfl) rfl #[.slice Ao52 x10_1.length co52, .int .i64 t244] rfl (by (try simp only [List.map_toArray, List.map_cons, List.map_nil]); first | done | rfl | (simp only [List.length_drop, List.length_take]; rfl)) ?_; (with_reducible refine (nats_Shr.calls k1 _ _ x10_1 t244 t264 _ ?side1 ?side2 A69.out).mono ?_); (case side1 => repeat (first | exact (Kd.R_reads' HO_10.out).2.2 | (with_reducible refine Kd.C_alloc ?_ _) | (with_reducible refine Kd.C_drewN ?_ _) | (with_reducible refine Kd.C_drew ?_))); (case side2 => exact (Kd.R_reads' HO_10.out).2.1); rintro e w71 ⟨v265, rfl, ho0, hb⟩; refine ⟨_, rfl, ?_⟩; have n0_ := Aside0.mk (Kd.R_elder' (by (with_reducible repeat (first | apply Kd.R_alloc | apply Kd.R_drewN | apply Kd.R_drew)); exact HO_9.out) (Kd.R_base ho0) hb); have n1_ := Aside0.mk (Kd.R_elder' (by (with_reducible repeat (first | apply Kd.R_alloc | apply Kd.R_drewN | apply Kd.R_drew)); exact HO_10.out) (Kd.R_base ho0) hb); have n2_ := Aside0.mk (Kd.R_elder' (by (with_reducible repeat (first | apply Kd.R_alloc | apply Kd.R_drewN | apply Kd.R_drew)); exact HO263.out) (Kd.R_base ho0) hb); have n3_ := Aside0.mk (Kd.R_lower (Kd.R_new' (Kd.R_new' (Kd.R_new' ho0 (Kd.R_lt (by (with_reducible repeat (first | apply Kd.R_alloc | apply Kd.R_drewN | apply Kd.R_drew)); exact HO_9.out))) (Kd.R_lt (by (with_reducible repeat (first | apply Kd.R_alloc | apply Kd.R_drewN | apply Kd.R_drew)); exact HO_10.out))) (Kd.R_lt (by (with_reducible repeat (first | apply Kd.R_alloc | apply Kd.R_drewN | apply Kd.R_drew)); exact HO263.out))) (below_size (by repeat (first | (with_reducible first | exact HB.out | apply below_alloc | apply pw_below_drewN | apply below_drew1) | exact HB.out)))); have n4_ := Aside0.mk (below_step (by repeat (first | (with_reducible first | exact HB.out | apply below_alloc | apply pw_below_drewN | apply below_drew1) | exact HB.out)) hb); clear HO_9; clear HO_10; clear HO263; clear HB; have HO_9 := n0_; have HO_10 := n1_; have HO263 := n2_; have HO266 := n3_; have HB := n4_; clear n0_ n1_ n2_ n3_ n4_; (try clear hb); (try clear hb2); (try clear hk); (try clear hi); (try clear ho0)))
                        go_ret2
                        exact ⟨_, _, by first | rfl | (simp [errW_none, errW_some] <;> rfl) | (simp only [← hji28, ← hji33, ← hji37]; first | rfl | (simp [errW_none, errW_some] <;> rfl)) | (simp [*, errW_none, errW_some] <;> rfl), by (with_reducible repeat (first | apply Kd.R_alloc | apply Kd.R_drewN | apply Kd.R_drew)); exact Kd.R_mono HO263.out (fun _ hk => hk.2), by (with_reducible repeat (first | apply Kd.R_alloc | apply Kd.R_drewN | apply Kd.R_drew)); exact Kd.R_mono HO266.out (fun _ hk => hk.2), by repeat (first | (with_reducible first | exact HB.out | apply below_alloc | apply pw_below_drewN | apply below_drew1) | exact HB.out)⟩
                · rw [if_neg c39] at H
                  exact absurd H (by simp)
              · rw [if_neg c38] at H
                exact absurd H (by simp)
            · rw [if_neg c35] at H
              exact absurd H (by simp)
          · rw [if_neg c34] at H
            exact absurd H (by simp)
        · rw [if_neg c30] at H
          exact absurd H (by simp)
      · rw [if_neg c29] at H
        exact absurd H (by simp)
end Go.Proofs.Ytgffficaoioljaa.P
end
section
namespace Go.Proofs.Ytgffficaoioljaa.P
open Go.RowKit Go.Proofs.YtgffficaoioljaaW.PrintWords Go.Proofs.YtgffficaoioljaaW.PrintLast Go.Proofs.YtgffficaoioljaaW.PrintMore
attribute [local go_sem] max2_int min2_int max_two min_two max_three min_three max_four min_four
set_option linter.unusedVariables false
set_option linter.unusedSimpArgs false
def limb_QuoRem.f (k : Nat) (l0 : List Int) (l1 : List Int) : Option (List Int × List Int × Int) := (nats_Bits.f k l1).bind fun t267 => (if t267 = 0 then (some (([] : List Int), ([] : List Int), 10)) else ((nats_QuoRem.f k l0 l1).bind fun bt268 => (if (bt268.1.length : Int) > 16 then (some (([] : List Int), ([] : List Int), 4)) else (if (bt268.2.length : Int) > 16 then (some (([] : List Int), ([] : List Int), 4)) else (some (bt268.1, bt268.2, 0))))))
theorem limb_QuoRem.mono : ∀ a0 a1 k, LeO (limb_QuoRem.f k a0 a1) (limb_QuoRem.f (k + 1) a0 a1) := by
  intro a0 a1 k
  unfold limb_QuoRem.f
  repeat' first
      | (with_reducible exact nats_Bits.mono _ _)
      | (with_reducible exact nats_QuoRem.mono _ _ _)
      | (with_reducible exact LeO.refl _)
      | (with_reducible exact LeO.none _)
      | (with_reducible refine LeO.ite ?_ ?_)
      | (with_reducible refine LeO.bind ?_ (fun _ => ?_))
      | exact nats_Bits.mono _ _
      | exact nats_QuoRem.mono _ _ _
      | exact LeO.none _
      | refine LeO.ite ?_ ?_
      | refine LeO.bind ?_ (fun _ => ?_)
set_option maxHeartbeats 8000000 in
set_option maxRecDepth 100000 in
theorem limb_QuoRem.calls (k : Nat) (A0 : Option Addr) (c0 : Nat) (l0 : List Int) (A1 : Option Addr) (c1 : Nat) (l1 : List Int) (r1 : List Int) (r2 : List Int) (r3 : Int) (w : World) (hr0 : Kd.C (Kd.int .u32) w A0 l0.length l0) (hc0 : l0.length ≤ c0) (hr1 : Kd.C (Kd.int .u32) w A1 l1.length l1) (hc1 : l1.length ≤ c1) (h : limb_QuoRem.f k l0 l1 = some (r1, r2, r3)) :
    Calls Try.prog 26 #[.slice A0 l0.length c0, .slice A1 l1.length c1] w fun e w' => ∃ v0_ v1_ : Value, e = .returned (.tuple #[v0_, v1_, .int .i64 r3]) ∧ Kd.R (Kd.int .u32) 47 w' w.heap.size (fun k_ => some k_ ≠ (v1_ : Value).ownBlock) v0_ r1 ∧ Kd.R (Kd.int .u32) 47 w' w.heap.size (fun k_ => some k_ ≠ (v0_ : Value).ownBlock) v1_ r2 ∧ Below w.heap.size w w' := by
  have HR0 := Aside0.mk hr0
  have HC0 := Aside0.mk hc0
  clear hr0 hc0
  have HR1 := Aside0.mk hr1
  have HC1 := Aside0.mk hc1
  clear hr1 hc1
  have HB := Aside0.mk (Below.refl w.heap.size w)
  have H : ((nats_Bits.f k l1).bind fun t267 => (if t267 = 0 then (some (([] : List Int), ([] : List Int), 10)) else ((nats_QuoRem.f k l0 l1).bind fun bt268 => (if (bt268.1.length : Int) > 16 then (some (([] : List Int), ([] : List Int), 4)) else (if (bt268.2.length : Int) > 16 then (some (([] : List Int), ([] : List Int), 4)) else (some (bt268.1, bt268.2, 0))))))) = some (r1, r2, r3) := h
  clear h
  replace H := Option.bind_eq_some_iff.mp H
  obtain ⟨t267, A30, H⟩ := H
  replace H : (if t267 = 0 then (some (([] : List Int), ([] : List Int), 10)) else ((nats_QuoRem.f k l0 l1).bind fun bt268 => (if (bt268.1.length : Int) > 16 then (some (([] : List Int), ([] : List Int), 4)) else (if (bt268.2.length : Int) > 16 then (some (([] : List Int), ([] : List Int), 4)) else (some (bt268.1, bt268.2, 0)))))) = some (r1, r2, r3) := H
  have A3 := Aside0.mk A30
  clear A30
  by_cases c4 : t267 = 0
  · rw [if_pos c4] at H
    have c4b0 : (t267 == 0) = true := beq_iff_eq.mpr c4
    have c4b1 : (t267 != 0) = false := bne_eq_false_iff_eq.mpr c4
    clear c4
    simp only [Option.some.injEq, Prod.mk.injEq] at H
    obtain ⟨rfl, rfl, rfl⟩ := H
    go_enter Try.func26, Try.ntmps26
    go_wp2_with (first | ((with_reducible refine gate_callee (f := 82) rfl ?_); refine goesL_ (some 10) rfl rfl Try.func82 (by kernel_rfl) rfl #[.slice A1 l1.length c1] rfl (by (try simp only [List.map_toArray, List.map_cons, List.map_nil]); first | done | rfl | (simp only [List.length_drop, List.length_take]; rfl)) ?_; (with_reducible refine (nats_Bits.calls k _ _ l1 t267 _ ?side1 ?side2 A3.out).mono ?_); (case side1 => repeat (first | exact HR1.out | (with_reducible refine Kd.C_alloc ?_ _) | (with_reducible refine Kd.C_drewN ?_ _) | (with_reducible refine Kd.C_drew ?_))); (case side2 => exact HC1.out); rintro e w5 ⟨rfl, hb⟩; refine ⟨_, rfl, ?_⟩; have n0_ := Aside0.mk (below_step (by repeat (first | (with_reducible first | exact HB.out | apply below_alloc | apply pw_below_drewN | apply below_drew1) | exact HB.out)) hb); clear HB; have HB := n0_; clear n0_; (try clear hb); (try clear hb2); (try clear hk); (try clear hi)))
    go_ret3
    exact ⟨_, _, by first | rfl | (simp [errW_none, errW_some] <;> rfl) | (simp [*, errW_none, errW_some] <;> rfl), by first | exact Kd.R_nil _ _ _ _ _ | exact Kd.N_nil _ _ _ _ _ | exact Kd.V_nil _ _ _ _ _ | exact Kd.Q_nil _ _ _ _ _ | exact Kd.S_nil _ _ _ _ _, by first | exact Kd.R_nil _ _ _ _ _ | exact Kd.N_nil _ _ _ _ _ | exact Kd.V_nil _ _ _ _ _ | exact Kd.Q_nil _ _ _ _ _ | exact Kd.S_nil _ _ _ _ _, by repeat (first | (with_reducible first | exact HB.out | apply below_alloc | apply pw_below_drewN | apply below_drew1) | exact HB.out)⟩
  · rw [if_neg c4] at H
    have c4b0 : (t267 == 0) = false := beq_eq_false_iff_ne.mpr c4
    have c4b1 : (t267 != 0) = true := bne_iff_ne.mpr c4
    replace H := Option.bind_eq_some_iff.mp H
    obtain ⟨⟨t268, t269⟩, A60, H⟩ := H
    replace H : (if (t268.length : Int) > 16 then (some (([] : List Int), ([] : List Int), 4)) else (if (t269.length : Int) > 16 then (some (([] : List Int), ([] : List Int), 4)) else (some (t268, t269, 0)))) = some (r1, r2, r3) := H
    have A6 := Aside0.mk A60
    clear A60
    by_cases c7 : (t268.length : Int) > 16
    · rw [if_pos c7] at H
      have c7b0 : decide (16 < (t268.length : Int)) = true := decide_eq_true c7
      have c7b1 : decide (16 < t268.length) = true := decide_eq_true (by omega)
      clear c7
      simp only [Option.some.injEq, Prod.mk.injEq] at H
      obtain ⟨rfl, rfl, rfl⟩ := H
      go_enter Try.func26, Try.ntmps26
      go_wp2_with (first | ((with_reducible refine gate_callee (f := 82) rfl ?_); refine goesL_ (some 10) rfl rfl Try.func82 (by kernel_rfl) rfl #[.slice A1 l1.length c1] rfl (by (try simp only [List.map_toArray, List.map_cons, List.map_nil]); first | done | rfl | (simp only [List.length_drop, List.length_take]; rfl)) ?_; (with_reducible refine (nats_Bits.calls k _ _ l1 t267 _ ?side1 ?side2 A3.out).mono ?_); (case side1 => repeat (first | exact HR1.out | (with_reducible refine Kd.C_alloc ?_ _) | (with_reducible refine Kd.C_drewN ?_ _) | (with_reducible refine Kd.C_drew ?_))); (case side2 => exact HC1.out); rintro e w8 ⟨rfl, hb⟩; refine ⟨_, rfl, ?_⟩; have n0_ := Aside0.mk (below_step (by repeat (first | (with_reducible first | exact HB.out | apply below_alloc | apply pw_below_drewN | apply below_drew1) | exact HB.out)) hb); clear HB; have HB := n0_; clear n0_; (try clear hb); (try clear hb2); (try clear hk); (try clear hi)) | ((with_reducible refine gate_callee (f := 83) rfl ?_); refine goesL_ (some 15) rfl rfl Try.func83 (by kernel_rfl) rfl #[.slice A0 l0.length c0, .slice A1 l1.length c1] rfl (by (try simp only [List.map_toArray, List.map_cons, List.map_nil]); first | done | rfl | (simp only [List.length_drop, List.length_take]; rfl)) ?_; (with_reducible refine (nats_QuoRem.calls k _ _ l0 _ _ l1 t268 t269 _ ?side1 ?side2 ?side3 ?side4 A6.out).mono ?_); (case side1 => repeat (first | exact (Kd.C_below HR0.out HB.out) | (with_reducible refine Kd.C_alloc ?_ _) | (with_reducible refine Kd.C_drewN ?_ _) | (with_reducible refine Kd.C_drew ?_))); (case side2 => exact HC0.out); (case side3 => repeat (first | exact (Kd.C_below HR1.out HB.out) | (with_reducible refine Kd.C_alloc ?_ _) | (with_reducible refine Kd.C_drewN ?_ _) | (with_reducible refine Kd.C_drew ?_))); (case side4 => exact HC1.out); rintro e w9 ⟨v270, v272, rfl, ho0, ho1, hb⟩; refine ⟨_, rfl, ?_⟩; have n0_ := Aside0.mk (Kd.R_lower ho0 (below_size (by repeat (first | (with_reducible first | exact HB.out | apply below_alloc | apply pw_below_drewN | apply below_drew1) | exact HB.out)))); have n1_ := Aside0.mk (Kd.R_lower ho1 (below_size (by repeat (first | (with_reducible first | exact HB.out | apply below_alloc | apply pw_below_drewN | apply below_drew1) | exact HB.out)))); have n2_ := Aside0.mk (below_step (by repeat (first | (with_reducible first | exact HB.out | apply below_alloc | apply pw_below_drewN | apply below_drew1) | exact HB.out)) hb); clear HB; have HO271 := n0_; have HO273 := n1_; have HB := n2_; clear n0_ n1_ n2_; (try clear hb); (try clear hb2); (try clear hk); (try clear hi); (try clear ho0); (try clear ho1); obtain ⟨Ao10, co10, eo10⟩ := Kd.R_slice HO271.out; subst eo10))
      go_ret3
      exact ⟨_, _, by first | rfl | (simp [errW_none, errW_some] <;> rfl) | (simp [*, errW_none, errW_some] <;> rfl), by first | exact Kd.R_nil _ _ _ _ _ | exact Kd.N_nil _ _ _ _ _ | exact Kd.V_nil _ _ _ _ _ | exact Kd.Q_nil _ _ _ _ _ | exact Kd.S_nil _ _ _ _ _, by first | exact Kd.R_nil _ _ _ _ _ | exact Kd.N_nil _ _ _ _ _ | exact Kd.V_nil _ _ _ _ _ | exact Kd.Q_nil _ _ _ _ _ | exact Kd.S_nil _ _ _ _ _, by repeat (first | (with_reducible first | exact HB.out | apply below_alloc | apply pw_below_drewN | apply below_drew1) | exact HB.out)⟩
    · rw [if_neg c7] at H
      have c7b0 : decide (16 < (t268.length : Int)) = false := decide_eq_false c7
      have c7b1 : decide (16 < t268.length) = false := decide_eq_false (by omega)
      clear c7
      by_cases c11 : (t269.length : Int) > 16
      · rw [if_pos c11] at H
        have c11b0 : decide (16 < (t269.length : Int)) = true := decide_eq_true c11
        have c11b1 : decide (16 < t269.length) = true := decide_eq_true (by omega)
        clear c11
        simp only [Option.some.injEq, Prod.mk.injEq] at H
        obtain ⟨rfl, rfl, rfl⟩ := H
        go_enter Try.func26, Try.ntmps26
        go_wp2_with (first | ((with_reducible refine gate_callee (f := 82) rfl ?_); refine goesL_ (some 10) rfl rfl Try.func82 (by kernel_rfl) rfl #[.slice A1 l1.length c1] rfl (by (try simp only [List.map_toArray, List.map_cons, List.map_nil]); first | done | rfl | (simp only [List.length_drop, List.length_take]; rfl)) ?_; (with_reducible refine (nats_Bits.calls k _ _ l1 t267 _ ?side1 ?side2 A3.out).mono ?_); (case side1 => repeat (first | exact HR1.out | (with_reducible refine Kd.C_alloc ?_ _) | (with_reducible refine Kd.C_drewN ?_ _) | (with_reducible refine Kd.C_drew ?_))); (case side2 => exact HC1.out); rintro e w12 ⟨rfl, hb⟩; refine ⟨_, rfl, ?_⟩; have n0_ := Aside0.mk (below_step (by repeat (first | (with_reducible first | exact HB.out | apply below_alloc | apply pw_below_drewN | apply below_drew1) | exact HB.out)) hb); clear HB; have HB := n0_; clear n0_; (try clear hb); (try clear hb2); (try clear hk); (try clear hi)) | ((with_reducible refine gate_callee (f := 83) rfl ?_); refine goesL_ (some 15) rfl rfl Try.func83 (by kernel_rfl) rfl #[.slice A0 l0.length c0, .slice A1 l1.length c1] rfl (by (try simp only [List.map_toArray, List.map_cons, List.map_nil]); first | done | rfl | (simp only [List.length_drop, List.length_take]; rfl)) ?_; (with_reducible refine (nats_QuoRem.calls k _ _ l0 _ _ l1 t268 t269 _ ?side1 ?side2 ?side3 ?side4 A6.out).mono ?_); (case side1 => repeat (first | exact (Kd.C_below HR0.out HB.out) | (with_reducible refine Kd.C_alloc ?_ _) | (with_reducible refine Kd.C_drewN ?_ _) | (with_reducible refine Kd.C_drew ?_))); (case side2 => exact HC0.out); (case side3 => repeat (first | exact (Kd.C_below HR1.out HB.out) | (with_reducible refine Kd.C_alloc ?_ _) | (with_reducible refine Kd.C_drewN ?_ _) | (with_reducible refine Kd.C_drew ?_))); (case side4 => exact HC1.out); rintro e w13 ⟨v270, v272, rfl, ho0, ho1, hb⟩; refine ⟨_, rfl, ?_⟩; have n0_ := Aside0.mk (Kd.R_lower ho0 (below_size (by repeat (first | (with_reducible first | exact HB.out | apply below_alloc | apply pw_below_drewN | apply below_drew1) | exact HB.out)))); have n1_ := Aside0.mk (Kd.R_lower ho1 (below_size (by repeat (first | (with_reducible first | exact HB.out | apply below_alloc | apply pw_below_drewN | apply below_drew1) | exact HB.out)))); have n2_ := Aside0.mk (below_step (by repeat (first | (with_reducible first | exact HB.out | apply below_alloc | apply pw_below_drewN | apply below_drew1) | exact HB.out)) hb); clear HB; have HO271 := n0_; have HO273 := n1_; have HB := n2_; clear n0_ n1_ n2_; (try clear hb); (try clear hb2); (try clear hk); (try clear hi); (try clear ho0); (try clear ho1); obtain ⟨Ao14, co14, eo14⟩ := Kd.R_slice HO271.out; subst eo14; obtain ⟨Ao15, co15, eo15⟩ := Kd.R_slice HO273.out; subst eo15))
        go_ret3
        exact ⟨_, _, by first | rfl | (simp [errW_none, errW_some] <;> rfl) | (simp [*, errW_none, errW_some] <;> rfl), by first | exact Kd.R_nil _ _ _ _ _ | exact Kd.N_nil _ _ _ _ _ | exact Kd.V_nil _ _ _ _ _ | exact Kd.Q_nil _ _ _ _ _ | exact Kd.S_nil _ _ _ _ _, by first | exact Kd.R_nil _ _ _ _ _ | exact Kd.N_nil _ _ _ _ _ | exact Kd.V_nil _ _ _ _ _ | exact Kd.Q_nil _ _ _ _ _ | exact Kd.S_nil _ _ _ _ _, by repeat (first | (with_reducible first | exact HB.out | apply below_alloc | apply pw_below_drewN | apply below_drew1) | exact HB.out)⟩
      · rw [if_neg c11] at H
        have c11b0 : decide (16 < (t269.length : Int)) = false := decide_eq_false c11
        have c11b1 : decide (16 < t269.length) = false := decide_eq_false (by omega)
        clear c11
        simp only [Option.some.injEq, Prod.mk.injEq] at H
        obtain ⟨rfl, rfl, rfl⟩ := H
        go_enter Try.func26, Try.ntmps26
        go_wp2_with (first | ((with_reducible refine gate_callee (f := 82) rfl ?_); refine goesL_ (some 10) rfl rfl Try.func82 (by kernel_rfl) rfl #[.slice A1 l1.length c1] rfl (by (try simp only [List.map_toArray, List.map_cons, List.map_nil]); first | done | rfl | (simp only [List.length_drop, List.length_take]; rfl)) ?_; (with_reducible refine (nats_Bits.calls k _ _ l1 t267 _ ?side1 ?side2 A3.out).mono ?_); (case side1 => repeat (first | exact HR1.out | (with_reducible refine Kd.C_alloc ?_ _) | (with_reducible refine Kd.C_drewN ?_ _) | (with_reducible refine Kd.C_drew ?_))); (case side2 => exact HC1.out); rintro e w16 ⟨rfl, hb⟩; refine ⟨_, rfl, ?_⟩; have n0_ := Aside0.mk (below_step (by repeat (first | (with_reducible first | exact HB.out | apply below_alloc | apply pw_below_drewN | apply below_drew1) | exact HB.out)) hb); clear HB; have HB := n0_; clear n0_; (try clear hb); (try clear hb2); (try clear hk); (try clear hi)) | ((with_reducible refine gate_callee (f := 83) rfl ?_); refine goesL_ (some 15) rfl rfl Try.func83 (by kernel_rfl) rfl #[.slice A0 l0.length c0, .slice A1 l1.length c1] rfl (by (try simp only [List.map_toArray, List.map_cons, List.map_nil]); first | done | rfl | (simp only [List.length_drop, List.length_take]; rfl)) ?_; (with_reducible refine (nats_QuoRem.calls k _ _ l0 _ _ l1 t268 t269 _ ?side1 ?side2 ?side3 ?side4 A6.out).mono ?_); (case side1 => repeat (first | exact (Kd.C_below HR0.out HB.out) | (with_reducible refine Kd.C_alloc ?_ _) | (with_reducible refine Kd.C_drewN ?_ _) | (with_reducible refine Kd.C_drew ?_))); (case side2 => exact HC0.out); (case side3 => repeat (first | exact (Kd.C_below HR1.out HB.out) | (with_reducible refine Kd.C_alloc ?_ _) | (with_reducible refine Kd.C_drewN ?_ _) | (with_reducible refine Kd.C_drew ?_))); (case side4 => exact HC1.out); rintro e w17 ⟨v270, v272, rfl, ho0, ho1, hb⟩; refine ⟨_, rfl, ?_⟩; have n0_ := Aside0.mk (Kd.R_lower ho0 (below_size (by repeat (first | (with_reducible first | exact HB.out | apply below_alloc | apply pw_below_drewN | apply below_drew1) | exact HB.out)))); have n1_ := Aside0.mk (Kd.R_lower ho1 (below_size (by repeat (first | (with_reducible first | exact HB.out | apply below_alloc | apply pw_below_drewN | apply below_drew1) | exact HB.out)))); have n2_ := Aside0.mk (below_step (by repeat (first | (with_reducible first | exact HB.out | apply below_alloc | apply pw_below_drewN | apply below_drew1) | exact HB.out)) hb); clear HB; have HO271 := n0_; have HO273 := n1_; have HB := n2_; clear n0_ n1_ n2_; (try clear hb); (try clear hb2); (try clear hk); (try clear hi); (try clear ho0); (try clear ho1); obtain ⟨Ao18, co18, eo18⟩ := Kd.R_slice HO271.out; subst eo18; obtain ⟨Ao19, co19, eo19⟩ := Kd.R_slice HO273.out; subst eo19))
        go_ret3
        exact ⟨_, _, by first | rfl | (simp [errW_none, errW_some] <;> rfl) | (simp [*, errW_none, errW_some] <;> rfl), by (with_reducible repeat (first | apply Kd.R_alloc | apply Kd.R_drewN | apply Kd.R_drew)); exact HO271.out, by (with_reducible repeat (first | apply Kd.R_alloc | apply Kd.R_drewN | apply Kd.R_drew)); exact HO273.out, by repeat (first | (with_reducible first | exact HB.out | apply below_alloc | apply pw_below_drewN | apply below_drew1) | exact HB.out)⟩
end Go.Proofs.Ytgffficaoioljaa.P
end
section
namespace Go.Proofs.Ytgffficaoioljaa.P
open Go.RowKit Go.Proofs.YtgffficaoioljaaW.PrintWords Go.Proofs.YtgffficaoioljaaW.PrintLast Go.Proofs.YtgffficaoioljaaW.PrintMore
attribute [local go_sem] max2_int min2_int max_two min_two max_three min_three max_four min_four
set_option linter.unusedVariables false
set_option linter.unusedSimpArgs false
def nats_Gcd.l0 : Nat → List Int → List Int → Option (List Int)
  | 0, _, _ => none
  | k + 1, x0, x1 => if (x1.length : Int) > 0 then ((nats_QuoRem.f k x0 x1).bind fun bt669 => (nats_Gcd.l0 k x1 bt669.2)) else ((nats_Trim.f k x0).bind fun t675 => (some t675))
def nats_Gcd.f (k : Nat) (l0 : List Int) (l1 : List Int) : Option (List Int) := (nats_Trim.f k l0).bind fun t663 => ((nats_Trim.f k l1).bind fun t666 => (nats_Gcd.l0 k t663 t666))
set_option maxHeartbeats 8000000 in
set_option maxRecDepth 100000 in
theorem nats_Gcd.calls (k : Nat) (A0 : Option Addr) (c0 : Nat) (l0 : List Int) (A1 : Option Addr) (c1 : Nat) (l1 : List Int) (r : List Int) (w : World) (hr0 : Kd.C (Kd.int .u32) w A0 l0.length l0) (hc0 : l0.length ≤ c0) (hr1 : Kd.C (Kd.int .u32) w A1 l1.length l1) (hc1 : l1.length ≤ c1) (h : nats_Gcd.f k l0 l1 = some r) :
    Calls Try.prog 91 #[.slice A0 l0.length c0, .slice A1 l1.length c1] w fun e w' => ∃ v0_ : Value, e = .returned (v0_) ∧ Kd.R (Kd.int .u32) 47 w' w.heap.size (fun _ => True) v0_ r ∧ Below w.heap.size w w' := by
  have HR0 := Aside0.mk hr0
  have HC0 := Aside0.mk hc0
  clear hr0 hc0
  have HR1 := Aside0.mk hr1
  have HC1 := Aside0.mk hc1
  clear hr1 hc1
  have HB := Aside0.mk (Below.refl w.heap.size w)
  have H : ((nats_Trim.f k l0).bind fun t663 => ((nats_Trim.f k l1).bind fun t666 => (nats_Gcd.l0 k t663 t666))) = some r := h
  clear h
  replace H := Option.bind_eq_some_iff.mp H
  obtain ⟨t663, A30, H⟩ := H
  replace H : ((nats_Trim.f k l1).bind fun t666 => (nats_Gcd.l0 k t663 t666)) = some r := H
  have A3 := Aside0.mk A30
  clear A30
  replace H := Option.bind_eq_some_iff.mp H
  obtain ⟨t666, A40, H⟩ := H
  replace H : (nats_Gcd.l0 k t663 t666) = some r := H
  have A4 := Aside0.mk A40
  clear A40
  have H' := Aside0.mk H
  clear H
  go_enter Try.func91, Try.ntmps91
  go_wp2_with (first | ((with_reducible refine gate_callee (f := 90) rfl ?_); refine goesL_ (some 8) rfl rfl Try.func90 (by kernel_rfl) rfl #[.slice A0 l0.length c0] rfl (by (try simp only [List.map_toArray, List.map_cons, List.map_nil]); first | done | rfl | (simp only [List.length_drop, List.length_take]; rfl)) ?_; (with_reducible refine (nats_Trim.calls k _ _ l0 t663 _ ?side1 ?side2 A3.out).mono ?_); (case side1 => repeat (first | exact HR0.out | (with_reducible refine Kd.C_alloc ?_ _) | (with_reducible refine Kd.C_drewN ?_ _) | (with_reducible refine Kd.C_drew ?_))); (case side2 => exact HC0.out); rintro e w5 ⟨v664, rfl, ho0, hb⟩; refine ⟨_, rfl, ?_⟩; have n0_ := Aside0.mk (Kd.R_lower ho0 (below_size (by repeat (first | (with_reducible first | exact HB.out | apply below_alloc | apply pw_below_drewN | apply below_drew1) | exact HB.out)))); have n1_ := Aside0.mk (below_step (by repeat (first | (with_reducible first | exact HB.out | apply below_alloc | apply pw_below_drewN | apply below_drew1) | exact HB.out)) hb); clear HB; have HO665 := n0_; have HB := n1_; clear n0_ n1_; (try clear hb); (try clear hb2); (try clear hk); (try clear hi); (try clear ho0)) | ((with_reducible refine gate_callee (f := 90) rfl ?_); refine goesL_ (some 10) rfl rfl Try.func90 (by kernel_rfl) rfl #[.slice A1 l1.length c1] rfl (by (try simp only [List.map_toArray, List.map_cons, List.map_nil]); first | done | rfl | (simp only [List.length_drop, List.length_take]; rfl)) ?_; (with_reducible refine (nats_Trim.calls k _ _ l1 t666 _ ?side1 ?side2 A4.out).mono ?_); (case side1 => repeat (first | exact (Kd.C_below HR1.out HB.out) | (with_reducible refine Kd.C_alloc ?_ _) | (with_reducible refine Kd.C_drewN ?_ _) | (with_reducible refine Kd.C_drew ?_))); (case side2 => exact HC1.out); rintro e w6 ⟨v667, rfl, ho0, hb⟩; refine ⟨_, rfl, ?_⟩; have n0_ := Aside0.mk (Kd.R_elder' (by (with_reducible repeat (first | apply Kd.R_alloc | apply Kd.R_drewN | apply Kd.R_drew)); exact HO665.out) (Kd.R_base ho0) hb); have n1_ := Aside0.mk (Kd.R_lower (Kd.R_new' ho0 (Kd.R_lt (by (with_reducible repeat (first | apply Kd.R_alloc | apply Kd.R_drewN | apply Kd.R_drew)); exact HO665.out))) (below_size (by repeat (first | (with_reducible first | exact HB.out | apply below_alloc | apply pw_below_drewN | apply below_drew1) | exact HB.out)))); have n2_ := Aside0.mk (below_step (by repeat (first | (with_reducible first | exact HB.out | apply below_alloc | apply pw_below_drewN | apply below_drew1) | exact HB.out)) hb); clear HO665; clear HB; have HO665 := n0_; have HO668 := n1_; have HB := n2_; clear n0_ n1_ n2_; (try clear hb); (try clear hb2); (try clear hk); (try clear hi); (try clear ho0)))
  go_loopg [0, 1] k (fun kq v0 v1 w' => ∃ (x0_1 : List Int) (x1_1 : List Int), Aside0 (nats_Gcd.l0 kq x0_1 x1_1 = some r) ∧ Aside0 (kq ≤ k) ∧ Aside0 (Kd.R (Kd.int .u32) 47 w' w.heap.size (fun k_ => some k_ ≠ (v1 : Value).ownBlock) v0 x0_1) ∧ Aside0 (Kd.R (Kd.int .u32) 47 w' w.heap.size (fun k_ => some k_ ≠ (v0 : Value).ownBlock) v1 x1_1) ∧ Aside0 (Below w.heap.size w w'))
  case atStart => exact ⟨(t663), (t666), H', ⟨Nat.le_refl _⟩, ⟨by (with_reducible repeat (first | apply Kd.R_alloc | apply Kd.R_drewN | apply Kd.R_drew)); exact Kd.R_mono HO665.out (fun _ hk => hk.2)⟩, ⟨by (with_reducible repeat (first | apply Kd.R_alloc | apply Kd.R_drewN | apply Kd.R_drew)); exact Kd.R_mono HO668.out (fun _ hk => hk.2)⟩, ⟨by repeat (first | (with_reducible first | exact HB.out | apply below_alloc | apply pw_below_drewN | apply below_drew1) | exact HB.out)⟩⟩
  case round =>
    clear H'
    try clear c1
    try clear p2
    obtain ⟨x0_1, x1_1, HA, HK1, HO_0, HO_1, HB⟩ := hrel
    cases gk with
    | zero => exact absurd HA.out (by simp [nats_Gcd.l0])
    | succ k1 =>
      have H := HA.out
      clear HA
      simp only [nats_Gcd.l0] at H
      by_cases c7 : (x1_1.length : Int) > 0
      · rw [if_pos c7] at H
        have c7b0 : decide (0 < (x1_1.length : Int)) = true := decide_eq_true c7
        have c7b1 : decide (0 < x1_1.length) = true := decide_eq_true (by omega)
        clear c7
        replace H := Option.bind_eq_some_iff.mp H
        obtain ⟨⟨t669, t670⟩, A80, H⟩ := H
        replace H : (nats_Gcd.l0 k1 x1_1 t670) = some r := H
        have A8 := Aside0.mk A80
        clear A80
        have H' := Aside0.mk H
        clear H
        obtain ⟨Ao9, co9, eo9⟩ := Kd.R_slice HO_1.out
        subst eo9
        obtain ⟨Ao10, co10, eo10⟩ := Kd.R_slice HO_0.out
        subst eo10
        go_wp2_with (first | ((with_reducible refine gate_callee (f := 83) rfl ?_); refine goesL_ (some 17) rfl rfl Try.func83 (by kernel_rfl) rfl #[.slice Ao10 x0_1.length co10, .slice Ao9 x1_1.length co9] rfl (by (try simp only [List.map_toArray, List.map_cons, List.map_nil]); first | done | rfl | (simp only [List.length_drop, List.length_take]; rfl)) ?_; (with_reducible refine (nats_QuoRem.calls k1 _ _ x0_1 _ _ x1_1 t669 t670 _ ?side1 ?side2 ?side3 ?side4 A8.out).mono ?_); (case side1 => repeat (first | exact (Kd.R_reads' HO_0.out).2.2 | (with_reducible refine Kd.C_alloc ?_ _) | (with_reducible refine Kd.C_drewN ?_ _) | (with_reducible refine Kd.C_drew ?_))); (case side2 => exact (Kd.R_reads' HO_0.out).2.1); (case side3 => repeat (first | exact (Kd.R_reads' HO_1.out).2.2 | (with_reducible refine Kd.C_alloc ?_ _) | (with_reducible refine Kd.C_drewN ?_ _) | (with_reducible refine Kd.C_drew ?_))); (case side4 => exact (Kd.R_reads' HO_1.out).2.1); rintro e w11 ⟨v671, v673, rfl, ho0, ho1, hb⟩; refine ⟨_, rfl, ?_⟩; have n0_ := Aside0.mk (Kd.R_mono (Kd.R_told (Kd.R_told (Kd.R_old (by (with_reducible repeat (first | apply Kd.R_alloc | apply Kd.R_drewN | apply Kd.R_drew)); exact HO_0.out) hb) (Kd.R_base ho0)) (Kd.R_base ho1)) (fun _ h_ => h_.1)); have n1_ := Aside0.mk (Kd.R_mono (Kd.R_told (Kd.R_told (Kd.R_old (by (with_reducible repeat (first | apply Kd.R_alloc | apply Kd.R_drewN | apply Kd.R_drew)); exact HO_1.out) hb) (Kd.R_base ho0)) (Kd.R_base ho1)) (fun _ h_ => h_.1)); have n2_ := Aside0.mk (Kd.R_lower (Kd.R_new' (Kd.R_new' ho0 (Kd.R_lt (by (with_reducible repeat (first | apply Kd.R_alloc | apply Kd.R_drewN | apply Kd.R_drew)); exact HO_0.out))) (Kd.R_lt (by (with_reducible repeat (first | apply Kd.R_alloc | apply Kd.R_drewN | apply Kd.R_drew)); exact HO_1.out))) (below_size (by repeat (first | (with_reducible first | exact HB.out | apply below_alloc | apply pw_below_drewN | apply below_drew1) | exact HB.out)))); have n3_ := Aside0.mk (Kd.R_lower (Kd.R_new' (Kd.R_new' ho1 (Kd.R_lt (by (with_reducible repeat (first | apply Kd.R_alloc | apply Kd.R_drewN | apply Kd.R_drew)); exact HO_0.out))) (Kd.R_lt (by (with_reducible repeat (first | apply Kd.R_alloc | apply Kd.R_drewN | apply Kd.R_drew)); exact HO_1.out))) (below_size (by repeat (first | (with_reducible first | exact HB.out | apply below_alloc | apply pw_below_drewN | apply below_drew1) | exact HB.out)))); have n4_ := Aside0.mk (below_step (by repeat (first | (with_reducible first | exact HB.out | apply below_alloc | apply pw_below_drewN | apply below_drew1) | exact HB.out)) hb); clear HO_0; clear HO_1; clear HB; have HO_0 := n0_; have HO_1 := n1_; have HO672 := n2_; have HO674 := n3_; have HB := n4_; clear n0_ n1_ n2_ n3_ n4_; (try clear hb); (try clear hb2); (try clear hk); (try clear hi); (try clear ho0); (try clear ho1)))
        go_roundg k1
        case measure => have := HK1.out; omega
        case rel => exact ⟨(x1_1), (t670), H', ⟨by have := HK1.out; omega⟩, ⟨by (with_reducible repeat (first | apply Kd.R_alloc | apply Kd.R_drewN | apply Kd.R_drew)); exact Kd.R_mono HO_1.out (fun _ hk => hk.2)⟩, ⟨by (with_reducible repeat (first | apply Kd.R_alloc | apply Kd.R_drewN | apply Kd.R_drew)); exact Kd.R_mono HO674.out (fun _ hk => hk.2)⟩, ⟨by repeat (first | (with_reducible first | exact HB.out | apply below_alloc | apply pw_below_drewN | apply below_drew1) | exact HB.out)⟩⟩
      · rw [if_neg c7] at H
        have c7b0 : decide (0 < (x1_1.length : Int)) = false := decide_eq_false c7
        have c7b1 : decide (0 < x1_1.length) = false := decide_eq_false (by omega)
        clear c7
        replace H := Option.bind_eq_some_iff.mp H
        obtain ⟨t675, A120, H⟩ := H
        replace H : (some t675) = some r := H
        have A12 := Aside0.mk A120
        clear A120
        obtain rfl := Option.some.inj H
        obtain ⟨Ao13, co13, eo13⟩ := Kd.R_slice HO_1.out
        subst eo13
        obtain ⟨Ao14, co14, eo14⟩ := Kd.R_slice HO_0.out
        subst eo14
        go_wp2_with (first | ((with_reducible refine gate_callee (f := 90) rfl ?_); refine goesL_ (some 23) rfl rfl Try.func90 (by kernel_rfl) rfl #[.slice Ao14 x0_1.length co14] rfl (by (try simp only [List.map_toArray, List.map_cons, List.map_nil]); first | done | rfl | (simp only [List.length_drop, List.length_take]; rfl)) ?_; (with_reducible refine (nats_Trim.calls k1 _ _ x0_1 t675 _ ?side1 ?side2 A12.out).mono ?_); (case side1 => repeat (first | exact (Kd.R_reads' HO_0.out).2.2 | (with_reducible refine Kd.C_alloc ?_ _) | (with_reducible refine Kd.C_drewN ?_ _) | (with_reducible refine Kd.C_drew ?_))); (case side2 => exact (Kd.R_reads' HO_0.out).2.1); rintro e w15 ⟨v676, rfl, ho0, hb⟩; refine ⟨_, rfl, ?_⟩; have n0_ := Aside0.mk (Kd.R_elder' (by (with_reducible repeat (first | apply Kd.R_alloc | apply Kd.R_drewN | apply Kd.R_drew)); exact HO_0.out) (Kd.R_base ho0) hb); have n1_ := Aside0.mk (Kd.R_elder' (by (with_reducible repeat (first | apply Kd.R_alloc | apply Kd.R_drewN | apply Kd.R_drew)); exact HO_1.out) (Kd.R_base ho0) hb); have n2_ := Aside0.mk (Kd.R_lower (Kd.R_new' (Kd.R_new' ho0 (Kd.R_lt (by (with_reducible repeat (first | apply Kd.R_alloc | apply Kd.R_drewN | apply Kd.R_drew)); exact HO_0.out))) (Kd.R_lt (by (with_reducible repeat (first | apply Kd.R_alloc | apply Kd.R_drewN | apply Kd.R_drew)); exact HO_1.out))) (below_size (by repeat (first | (with_reducible first | exact HB.out | apply below_alloc | apply pw_below_drewN | apply below_drew1) | exact HB.out)))); have n3_ := Aside0.mk (below_step (by repeat (first | (with_reducible first | exact HB.out | apply below_alloc | apply pw_below_drewN | apply below_drew1) | exact HB.out)) hb); clear HO_0; clear HO_1; clear HB; have HO_0 := n0_; have HO_1 := n1_; have HO677 := n2_; have HB := n3_; clear n0_ n1_ n2_ n3_; (try clear hb); (try clear hb2); (try clear hk); (try clear hi); (try clear ho0)))
        go_ret
        exact ⟨_, by first | rfl | (simp [errW_none, errW_some] <;> rfl) | (simp [*, errW_none, errW_some] <;> rfl), by (with_reducible repeat (first | apply Kd.R_alloc | apply Kd.R_drewN | apply Kd.R_drew)); exact Kd.R_mono HO677.out (fun _ hk => trivial), by repeat (first | (with_reducible first | exact HB.out | apply below_alloc | apply pw_below_drewN | apply below_drew1) | exact HB.out)⟩
end Go.Proofs.Ytgffficaoioljaa.P
end
section
namespace Go.Proofs.Ytgffficaoioljaa.P
open Go.RowKit Go.Proofs.YtgffficaoioljaaW.PrintWords Go.Proofs.YtgffficaoioljaaW.PrintLast Go.Proofs.YtgffficaoioljaaW.PrintMore
attribute [local go_sem] max2_int min2_int max_two min_two max_three min_three max_four min_four
set_option linter.unusedVariables false
set_option linter.unusedSimpArgs false
def limb_Gcd.f (k : Nat) (l0 : List Int) (l1 : List Int) : Option (List Int × Int) := (nats_Gcd.f k l0 l1).bind fun t678 => ((limb_fit.f t678).bind fun bt681 => (some (bt681.1, bt681.2)))
set_option maxHeartbeats 8000000 in
set_option maxRecDepth 100000 in
theorem limb_Gcd.calls (k : Nat) (A0 : Option Addr) (c0 : Nat) (l0 : List Int) (A1 : Option Addr) (c1 : Nat) (l1 : List Int) (r1 : List Int) (r2 : Int) (w : World) (hr0 : Kd.C (Kd.int .u32) w A0 l0.length l0) (hc0 : l0.length ≤ c0) (hr1 : Kd.C (Kd.int .u32) w A1 l1.length l1) (hc1 : l1.length ≤ c1) (h : limb_Gcd.f k l0 l1 = some (r1, r2)) :
    Calls Try.prog 40 #[.slice A0 l0.length c0, .slice A1 l1.length c1] w fun e w' => ∃ v0_ : Value, e = .returned (.tuple #[v0_, .int .i64 r2]) ∧ Kd.R (Kd.int .u32) 47 w' w.heap.size (fun _ => True) v0_ r1 ∧ Below w.heap.size w w' := by
  have HR0 := Aside0.mk hr0
  have HC0 := Aside0.mk hc0
  clear hr0 hc0
  have HR1 := Aside0.mk hr1
  have HC1 := Aside0.mk hc1
  clear hr1 hc1
  have HB := Aside0.mk (Below.refl w.heap.size w)
  have H : ((nats_Gcd.f k l0 l1).bind fun t678 => ((limb_fit.f t678).bind fun bt681 => (some (bt681.1, bt681.2)))) = some (r1, r2) := h
  clear h
  replace H := Option.bind_eq_some_iff.mp H
  obtain ⟨t678, A30, H⟩ := H
  replace H : ((limb_fit.f t678).bind fun bt681 => (some (bt681.1, bt681.2))) = some (r1, r2) := H
  have A3 := Aside0.mk A30
  clear A30
  replace H := Option.bind_eq_some_iff.mp H
  obtain ⟨⟨t681, t684⟩, A40, H⟩ := H
  replace H : (some (t681, t684)) = some (r1, r2) := H
  have A4 := Aside0.mk A40
  clear A40
  simp only [Option.some.injEq, Prod.mk.injEq] at H
  obtain ⟨rfl, rfl⟩ := H
  go_enter Try.func40, Try.ntmps40
  go_wp2_with (first | ((with_reducible refine gate_callee (f := 91) rfl ?_); refine goesL_ (some 8) rfl rfl Try.func91 (by kernel_rfl) rfl #[.slice A0 l0.length c0, .slice A1 l1.length c1] rfl (by (try simp only [List.map_toArray, List.map_cons, List.map_nil]); first | done | rfl | (simp only [List.length_drop, List.length_take]; rfl)) ?_; (with_reducible refine (nats_Gcd.calls k _ _ l0 _ _ l1 t678 _ ?side1 ?side2 ?side3 ?side4 A3.out).mono ?_); (case side1 => repeat (first | exact HR0.out | (with_reducible refine Kd.C_alloc ?_ _) | (with_reducible refine Kd.C_drewN ?_ _) | (with_reducible refine Kd.C_drew ?_))); (case side2 => exact HC0.out); (case side3 => repeat (first | exact HR1.out | (with_reducible refine Kd.C_alloc ?_ _) | (with_reducible refine Kd.C_drewN ?_ _) | (with_reducible refine Kd.C_drew ?_))); (case side4 => exact HC1.out); rintro e w5 ⟨v679, rfl, ho0, hb⟩; refine ⟨_, rfl, ?_⟩; have n0_ := Aside0.mk (Kd.R_lower ho0 (below_size (by repeat (first | (with_reducible first | exact HB.out | apply below_alloc | apply pw_below_drewN | apply below_drew1) | exact HB.out)))); have n1_ := Aside0.mk (below_step (by repeat (first | (with_reducible first | exact HB.out | apply below_alloc | apply pw_below_drewN | apply below_drew1) | exact HB.out)) hb); clear HB; have HO680 := n0_; have HB := n1_; clear n0_ n1_; (try clear hb); (try clear hb2); (try clear hk); (try clear hi); (try clear ho0); obtain ⟨Ao6, co6, eo6⟩ := Kd.R_slice HO680.out; subst eo6) | ((with_reducible refine gate_callee (f := 80) rfl ?_); refine goesL_ (some 9) rfl rfl Try.func80 (by kernel_rfl) rfl #[.slice Ao6 t678.length co6] rfl (by (try simp only [List.map_toArray, List.map_cons, List.map_nil]); first | done | rfl | (simp only [List.length_drop, List.length_take]; rfl)) ?_; (with_reducible refine (limb_fit.calls (fun k_ => some k_ = (.slice Ao6 t678.length co6 : Value).ownBlock) (.slice Ao6 t678.length co6) t678 t681 t684 w _ ?side1 ?side2 A4.out).mono ?_); (case side1 => repeat (first | (with_reducible first | exact HB.out | apply below_alloc | apply pw_below_drewN | apply below_drew1) | exact HB.out)); (case side2 => exact Kd.R_tight rfl HO680.out); rintro e w7 ⟨v682, rfl, ho0, hb, hkp⟩; refine ⟨_, rfl, ?_⟩; have n0_ := Aside0.mk (Kd.R_mono (ok' := fun k_ => True) ho0 (fun k_ hk_ => trivial)); have n1_ := Aside0.mk (hb); clear HB; clear HO680; have HO683 := n0_; have HB := n1_; clear n0_ n1_; (try clear hb); (try clear hkp); (try clear ho0)))
  go_ret2
  exact ⟨_, by first | rfl | (simp [errW_none, errW_some] <;> rfl) | (simp [*, errW_none, errW_some] <;> rfl), by (with_reducible repeat (first | apply Kd.R_alloc | apply Kd.R_drewN | apply Kd.R_drew)); exact HO683.out, by repeat (first | (with_reducible first | exact HB.out | apply below_alloc | apply pw_below_drewN | apply below_drew1) | exact HB.out)⟩
end Go.Proofs.Ytgffficaoioljaa.P
end
