import Derived.Test.YtgffficaoioljaaRk11
import Derived.Test.YtgffficaoioljaaRk14
import Derived.Test.YtgffficaoioljaaRk15
import Derived.Test.YtgffficaoioljaaRk13
section
namespace Go.Proofs.Ytgffficaoioljaa.P
open Go.RowKit Go.Proofs.YtgffficaoioljaaW.PrintWords Go.Proofs.YtgffficaoioljaaW.PrintLast Go.Proofs.YtgffficaoioljaaW.PrintMore
attribute [local go_sem] max2_int min2_int max_two min_two max_three min_three max_four min_four
set_option linter.unusedVariables false
set_option linter.unusedSimpArgs false
set_option maxHeartbeats 8000000
set_option maxRecDepth 100000
def nats_QuoRem.l0 : Nat → Int → List Int → List Int → List Int → Int → Option (List Int × List Int)
 | 0, _, _, _, _, _ => none
 | k + 1, x8, x9, x10, x11, x12 => if x12 ≥ 0 then (if 0 ≤ x12 then (if x12 < (wrap64 ((wrap64 (x12 + (x9.length : Int))) + 1)) then (if (wrap64 ((wrap64 (x12 + (x9.length : Int))) + 1)) ≤ (x10.length : Int) then ((nats_digitat.f k x10 x12 (wrap64 ((wrap64 (x12 + (x9.length : Int))) + 1)) x9).bind fun bt258 => (if x12 < (x11.length : Int) then (nats_QuoRem.l0 k x8 x9 bt258.2 (x11.set (x12 : Int).toNat bt258.1) (wrap64 (x12 - 1))) else (none))) else (none)) else (none)) else (none)) else ((nats_cuto.f k x11).bind fun t261 => ((nats_Shr.f k x10 x8).bind fun t264 => (some (t261, t264))))
def nats_QuoRem.f (k : Nat) (l0 : List Int) (l1 : List Int) : Option (List Int × List Int) := (nats_cut.f k l0).bind fun t222 => ((nats_cut.f k l1).bind fun t225 => ((nats_Cmp.f k t222 t225).bind fun t228 => (if t228 < 0 then ((nats_Trim.f k t222).bind fun t229 => (some (([] : List Int), t229))) else (if (t225.length : Int) = 1 then (if 0 < (t225.length : Int) then ((nats_word.f k t222 (rd t225 0)).bind fun bt233 => ((nats_cuto.f k (([bt233.2] : List Int))).bind fun t240 => (some (bt233.1, t240)))) else (none)) else (if 0 ≤ (wrap64 ((t225.length : Int) - 1)) then (if (wrap64 ((t225.length : Int) - 1)) < (t225.length : Int) then ((bits_LeadingZeros32.f (rd t225 (wrap64 ((t225.length : Int) - 1)))).bind fun t244 => ((nats_Shl.f k t225 t244).bind fun t245 => (if 0 ≤ (wrap64 ((t222.length : Int) + 1)) then (if (wrap64 ((t222.length : Int) + 1) : Int).toNat ≤ 70368744177664 then ((some (List.replicate (wrap64 ((t222.length : Int) + 1) : Int).toNat 0 : List Int)).bind fun y248 => ((nats_Shl.f k t222 t244).bind fun t251 => (if 0 ≤ (wrap64 ((wrap64 ((t222.length : Int) - (t225.length : Int))) + 1)) then (if (wrap64 ((wrap64 ((t222.length : Int) - (t225.length : Int))) + 1) : Int).toNat ≤ 70368744177664 then ((some (List.replicate (wrap64 ((wrap64 ((t222.length : Int) - (t225.length : Int))) + 1) : Int).toNat 0 : List Int)).bind fun y255 => (nats_QuoRem.l0 k t244 t245 (t251.take y248.length ++ y248.drop t251.length) y255 (wrap64 ((y255.length : Int) - 1)))) else (none)) else (none)))) else (none)) else (none)))) else (none)) else (none))))))
theorem nats_QuoRem.mono_l : ∀ k, (∀ y0 y1 y2 y3 y4, LeO (nats_QuoRem.l0 k y0 y1 y2 y3 y4) (nats_QuoRem.l0 (k + 1) y0 y1 y2 y3 y4))
 | 0 => fun _ _ _ _ _ r h => by simp [nats_QuoRem.l0] at h
 | k + 1 => by
  have ih0 := nats_QuoRem.mono_l k
  ·intro y0 y1 y2 y3 y4
   unfold nats_QuoRem.l0
   have m0 := @nats_Cmp.mono
   have m1 := @nats_Shl.mono
   have m2 := @nats_Shr.mono
   have m3 := @nats_Trim.mono
   have m4 := @nats_cut.mono
   have m5 := @nats_cuto.mono
   have m6 := @nats_digitat.mono
   have m7 := @nats_word.mono
   exact Qa6
theorem nats_QuoRem.mono : ∀ a0 a1 k, LeO (nats_QuoRem.f k a0 a1) (nats_QuoRem.f (k + 1) a0 a1) := by
 intro a0 a1 k
 have ih0 := nats_QuoRem.mono_l k
 unfold nats_QuoRem.f
 have m0 := @nats_Cmp.mono
 have m1 := @nats_Shl.mono
 have m2 := @nats_Shr.mono
 have m3 := @nats_Trim.mono
 have m4 := @nats_cut.mono
 have m5 := @nats_cuto.mono
 have m6 := @nats_digitat.mono
 have m7 := @nats_word.mono
 exact Qa6
theorem nats_QuoRem.calls (k : Nat) (A0 : Option Addr) (c0 : Nat) (l0 : List Int) (A1 : Option Addr) (c1 : Nat) (l1 : List Int) (r1 : List Int) (r2 : List Int) (w : World) (hr0 : Kd.C (Kd.int .u32) w A0 l0.length l0) (hc0 : l0.length ≤ c0) (hr1 : Kd.C (Kd.int .u32) w A1 l1.length l1) (hc1 : l1.length ≤ c1) (h : nats_QuoRem.f k l0 l1 = some (r1, r2)) :
  Calls Try.prog 83 #[.slice A0 l0.length c0, .slice A1 l1.length c1] w fun e w' => ∃ v0_ v1_ : Value, e = .returned (.tuple #[v0_, v1_]) ∧ Kd.R (Kd.int .u32) 47 w' w.heap.size (fun k_ => some k_ ≠ (v1_ : Value).ownBlock) v0_ r1 ∧ Kd.R (Kd.int .u32) 47 w' w.heap.size (fun k_ => some k_ ≠ (v0_ : Value).ownBlock) v1_ r2 ∧ Below w.heap.size w w' := by
 have HR0 := Yt.mk hr0
 have HC0 := Yt.mk hc0
 clear hr0 hc0
 have HR1 := Yt.mk hr1
 have HC1 := Yt.mk hc1
 clear hr1 hc1
 have HB := Yt.mk (Below.refl w.heap.size w)
 unfold nats_QuoRem.f at h
 have H := h
 clear h
 replace H := Option.bind_eq_some_iff.mp H
 obtain ⟨t222, A30, H⟩ := H
 try dsimp only at H
 have A3 := Yt.mk A30
 clear A30
 replace H := Option.bind_eq_some_iff.mp H
 obtain ⟨t225, A40, H⟩ := H
 try dsimp only at H
 have A4 := Yt.mk A40
 clear A40
 replace H := Option.bind_eq_some_iff.mp H
 obtain ⟨t228, A50, H⟩ := H
 try dsimp only at H
 have A5 := Yt.mk A50
 clear A50
 by_cases c6 : t228 < 0
 ·rw [if_pos c6] at H
  have c6b0 : decide (t228 < 0) = true := decide_eq_true c6
  clear c6
  replace H := Option.bind_eq_some_iff.mp H
  obtain ⟨t229, A70, H⟩ := H
  replace H : (some (([] : List Int), t229)) = some (r1, r2) := H
  have A7 := Yt.mk A70
  clear A70
  simp only [Option.some.injEq, Prod.mk.injEq] at H
  obtain ⟨rfl, rfl⟩ := H
  go_enter Try.func83, Try.ntmps83
  go_wp2_with (first | ((with_reducible refine Zr (f := 108) rfl ?_); refine Yg (some 14) rfl rfl Try.func108 Qa8 rfl #[.slice A0 l0.length c0] rfl Qa2 ?_; (with_reducible refine (nats_cut.calls k (fun k_ => k_ < w.heap.size) _ _ l0 t222 _ ?side1 A3.out).mono ?_); (case side1 => exact Kd.V_mk HC0.out (Kd.F_below (Kd.C_F (Kd.heap_int .u32) HR0.out) (Qa0))); rintro e w8 ⟨v223, rfl, ho0, hb⟩; refine ⟨_, rfl, ?_⟩; have HO224 := Yt.mk (Kd.V_lower (Kd.Yp (ok' := fun k_ => True) ho0 (fun k_ hk_ => trivial)) (Zk (Qa0))); replace HB := Yt.mk (Zm (Qa0) hb); (try clear hb); (try clear ho0)) | ((with_reducible refine Zr (f := 108) rfl ?_); refine Yg (some 16) rfl rfl Try.func108 Qa8 rfl #[.slice A1 l1.length c1] rfl Qa2 ?_; (with_reducible refine (nats_cut.calls k (fun k_ => k_ < w.heap.size) _ _ l1 t225 _ ?side1 A4.out).mono ?_); (case side1 => exact Kd.V_mk HC1.out (Kd.F_below (Kd.C_F (Kd.heap_int .u32) HR1.out) (Qa0))); rintro e w9 ⟨v226, rfl, ho0, hb⟩; refine ⟨_, rfl, ?_⟩; replace HO224 := Yt.mk (Kd.Yr (Qr7 HO224.out) hb); have HO227 := Yt.mk (Kd.V_lower (Kd.Yp (ok' := fun k_ => True) ho0 (fun k_ hk_ => trivial)) (Zk (Qa0))); replace HB := Yt.mk (Zm (Qa0) hb); (try clear hb); (try clear ho0); obtain ⟨Ao10, co10, eo10⟩ := Kd.V_slice HO224.out; subst eo10; obtain ⟨Ao11, co11, eo11⟩ := Kd.V_slice HO227.out; subst eo11) | ((with_reducible refine Zr (f := 89) rfl ?_); refine Yg (some 19) rfl rfl Try.func89 Qa8 rfl #[.slice Ao10 t222.length co10, .slice Ao11 t225.length co11] rfl Qa2 ?_; (with_reducible refine (nats_Cmp.calls k _ _ t222 _ _ t225 t228 _ ?side1 ?side2 ?side3 ?side4 A5.out).mono ?_); (case side1 => exact Qe11 (Kd.Yn HO224.out).2.2); (case side2 => exact (Kd.Yn HO224.out).2.1); (case side3 => exact Qe11 (Kd.Yn HO227.out).2.2); (case side4 => exact (Kd.Yn HO227.out).2.1); rintro e w12 ⟨rfl, hb⟩; refine ⟨_, rfl, ?_⟩; replace HO224 := Yt.mk (Kd.Yr (Qr7 HO224.out) hb); replace HO227 := Yt.mk (Kd.Yr (Qr7 HO227.out) hb); replace HB := Yt.mk (Zm (Qa0) hb); (try clear hb)) | ((with_reducible refine Zr (f := 90) rfl ?_); refine Yg (some 22) rfl rfl Try.func90 Qa8 rfl #[.slice Ao10 t222.length co10] rfl Qa2 ?_; (with_reducible refine (nats_Trim.calls k _ _ t222 t229 _ ?side1 ?side2 A7.out).mono ?_); (case side1 => exact Qe11 (Kd.Yn HO224.out).2.2); (case side2 => exact (Kd.Yn HO224.out).2.1); rintro e w13 ⟨v230, rfl, ho0, hb⟩; refine ⟨_, rfl, ?_⟩; replace HO224 := Yt.mk (Kd.V_elder' (Qr7 HO224.out) (Kd.Zw ho0) hb); replace HO227 := Yt.mk (Kd.V_elder' (Qr7 HO227.out) (Kd.Zw ho0) hb); have HO231 := Yt.mk (Kd.Yb ho0 (Zk (Qa0))); replace HB := Yt.mk (Zm (Qa0) hb); (try clear hb); (try clear ho0)))
  go_ret2
  exact ⟨_, _, Qa4, by first | exact Kd.R_nil _ _ _ _ _ | exact Kd.N_nil _ _ _ _ _ | exact Kd.V_nil _ _ _ _ _ | exact Kd.Q_nil _ _ _ _ _ | exact Kd.S_nil _ _ _ _ _, by (with_reducible repeat (first | apply Kd.Zf | apply Kd.Ze | apply Kd.Zj)); exact Kd.Zv HO231.out (fun _ hk => (by simp [Value.ownBlock])), Qa0⟩
 rw [if_neg c6] at H
 have c6b0 : decide (t228 < 0) = false := decide_eq_false c6
 clear c6
 by_cases c14 : (t225.length : Int) = 1
 ·rw [if_pos c14] at H
  have c14b0 : ((t225.length : Int) == 1) = true := beq_iff_eq.mpr c14
  have c14b1 : ((t225.length : Int) != 1) = false := bne_eq_false_iff_eq.mpr c14
  clear c14
  by_cases c15 : 0 < (t225.length : Int)
  rotate_left
  ·rw [if_neg c15] at H
   exact absurd H (by simp)
  rw [if_pos c15] at H
  have c15b0 : decide (0 < (t225.length : Int)) = true := decide_eq_true c15
  have c15b1 : decide (0 < t225.length) = true := decide_eq_true (by omega)
  clear c15
  replace H := Option.bind_eq_some_iff.mp H
  obtain ⟨⟨t233, t234⟩, A160, H⟩ := H
  try dsimp only at H
  have A16 := Yt.mk A160
  clear A160
  obtain ⟨y237, hy237⟩ : ∃ y_ : List Int, y_ = (([t234] : List Int)) := ⟨_, rfl⟩
  replace H : ((nats_cuto.f k y237).bind fun t240 => (some (t233, t240))) = some (r1, r2) := Qh hy237 H
  have Ny237 := Yt.mk hy237
  clear hy237
  replace H := Option.bind_eq_some_iff.mp H
  obtain ⟨t240, A170, H⟩ := H
  replace H : (some (t233, t240)) = some (r1, r2) := H
  have A17 := Yt.mk A170
  clear A170
  simp only [Option.some.injEq, Prod.mk.injEq] at H
  obtain ⟨rfl, rfl⟩ := H
  go_enter Try.func83, Try.ntmps83
  go_wp2_with (first | ((with_reducible refine Zr (f := 108) rfl ?_); refine Yg (some 14) rfl rfl Try.func108 Qa8 rfl #[.slice A0 l0.length c0] rfl Qa2 ?_; (with_reducible refine (nats_cut.calls k (fun k_ => k_ < w.heap.size) _ _ l0 t222 _ ?side1 A3.out).mono ?_); (case side1 => exact Kd.V_mk HC0.out (Kd.F_below (Kd.C_F (Kd.heap_int .u32) HR0.out) (Qa0))); rintro e w18 ⟨v223, rfl, ho0, hb⟩; refine ⟨_, rfl, ?_⟩; have HO224 := Yt.mk (Kd.V_lower (Kd.Yp (ok' := fun k_ => True) ho0 (fun k_ hk_ => trivial)) (Zk (Qa0))); replace HB := Yt.mk (Zm (Qa0) hb); (try clear hb); (try clear ho0)) | ((with_reducible refine Zr (f := 108) rfl ?_); refine Yg (some 16) rfl rfl Try.func108 Qa8 rfl #[.slice A1 l1.length c1] rfl Qa2 ?_; (with_reducible refine (nats_cut.calls k (fun k_ => k_ < w.heap.size) _ _ l1 t225 _ ?side1 A4.out).mono ?_); (case side1 => exact Kd.V_mk HC1.out (Kd.F_below (Kd.C_F (Kd.heap_int .u32) HR1.out) (Qa0))); rintro e w19 ⟨v226, rfl, ho0, hb⟩; refine ⟨_, rfl, ?_⟩; replace HO224 := Yt.mk (Kd.Yr (Qr7 HO224.out) hb); have HO227 := Yt.mk (Kd.V_lower (Kd.Yp (ok' := fun k_ => True) ho0 (fun k_ hk_ => trivial)) (Zk (Qa0))); replace HB := Yt.mk (Zm (Qa0) hb); (try clear hb); (try clear ho0); obtain ⟨Ao20, co20, eo20⟩ := Kd.V_slice HO224.out; subst eo20; obtain ⟨Ao21, co21, eo21⟩ := Kd.V_slice HO227.out; subst eo21) | ((with_reducible refine Zr (f := 89) rfl ?_); refine Yg (some 19) rfl rfl Try.func89 Qa8 rfl #[.slice Ao20 t222.length co20, .slice Ao21 t225.length co21] rfl Qa2 ?_; (with_reducible refine (nats_Cmp.calls k _ _ t222 _ _ t225 t228 _ ?side1 ?side2 ?side3 ?side4 A5.out).mono ?_); (case side1 => exact Qe11 (Kd.Yn HO224.out).2.2); (case side2 => exact (Kd.Yn HO224.out).2.1); (case side3 => exact Qe11 (Kd.Yn HO227.out).2.2); (case side4 => exact (Kd.Yn HO227.out).2.1); rintro e w22 ⟨rfl, hb⟩; refine ⟨_, rfl, ?_⟩; replace HO224 := Yt.mk (Kd.Yr (Qr7 HO224.out) hb); replace HO227 := Yt.mk (Kd.Yr (Qr7 HO227.out) hb); replace HB := Yt.mk (Zm (Qa0) hb); (try clear hb); have p232 : 0 ≤ (0 : Int) := (by omega); have q232 : 0 < (t225.length : Int) := Qd; obtain ⟨ad232, e232, hx232_0⟩ := Kd.at_int (Kd.Yn HO227.out).2.2 0 p232 q232; cases e232; have qi232 : (0 < t225.length) = True := eq_true (by omega); (try rw [show ((0 : Int)).toNat = 0 from rfl] at hx232_0); (try rw [Addr.add_zero'] at hx232_0); replace p232 := eq_true p232; replace q232 := eq_true q232) | ((with_reducible refine Zr (f := 110) rfl ?_); refine Yg (some 31) rfl rfl Try.func110 Qa8 rfl #[.slice Ao20 t222.length co20, .int .u32 (rd t225 0)] rfl Qa2 ?_; (with_reducible refine (nats_word.calls k _ _ t222 (rd t225 0) t233 t234 _ ?side1 ?side2 A16.out).mono ?_); (case side1 => exact Qe11 (Kd.Yn HO224.out).2.2); (case side2 => exact (Kd.Yn HO224.out).2.1); rintro e w23 ⟨v235, rfl, ho0, hb⟩; refine ⟨_, rfl, ?_⟩; replace HO224 := Yt.mk (Kd.V_elder' (Qr7 HO224.out) (Kd.Zw ho0) hb); replace HO227 := Yt.mk (Kd.V_elder' (Qr7 HO227.out) (Kd.Zw ho0) hb); have HO236 := Yt.mk (Kd.Yb ho0 (Zk (Qa0))); replace HB := Yt.mk (Zm (Qa0) hb); (try clear hb); (try clear ho0)) | ((with_reducible refine Yk (N := 36) rfl ?_); refine Kd.R_lit (Kd.int .u32) _ 47 ?hg (N := 36) ?hd (xs := ([t234] : List Int)) (inner := [.int .u32 t234]) (ok := fun _ => True) (okp := fun _ => True) ?hr ?hp (fun _ hk => hk) trivial (Below.refl _ _) (Nat.le_refl _) (by simp) ?_; (case hd => rfl); (case hg => rfl); (case hr => exact Qa9); (case hp => exact (Reps.one (show Kd.M (Kd.int .u32) _ _ _ t234 [.int .u32 t234] from rfl) (Reps.none _ _))); intro v238 w24 ho25 hb hg_ hnew_; clear hg_ hnew_; (first | rw [← Ny237.out] at ho25 | (simp only [Int.reduceToNat] at ho25; rw [← Ny237.out] at ho25)); replace HO224 := Yt.mk (Kd.V_elder' (Qr7 HO224.out) (Kd.Zw ho25) hb); replace HO227 := Yt.mk (Kd.V_elder' (Qr7 HO227.out) (Kd.Zw ho25) hb); have HO239 := Yt.mk (Kd.Yb (Kd.Ya ho25 (Kd.R_lt (Qr1 HO236.out))) (Zk (Qa0))); replace HO236 := Yt.mk (Kd.Yf (Qr1 HO236.out) (Kd.Zw ho25) hb); replace HB := Yt.mk (Zm (Qa0) hb); clear hb ho25; obtain ⟨Ao26, co26, eo26⟩ := Kd.Zx HO239.out; subst eo26) | ((with_reducible refine Zr (f := 108) rfl ?_); refine Yg (some 37) rfl rfl Try.func108 Qa8 rfl #[.slice Ao26 y237.length co26] rfl Qa2 ?_; (with_reducible refine (nats_cuto.calls k (fun k_ => some k_ = (.slice Ao26 y237.length co26 : Value).ownBlock) (.slice Ao26 y237.length co26) y237 t240 w _ ?side1 ?side2 A17.out).mono ?_); (case side1 => repeat (first | (with_reducible first | exact HB.out | apply Zb | apply Za | apply Zc) | exact HB.out)); (case side2 => exact Kd.R_tight rfl HO239.out); rintro e w27 ⟨v241, rfl, ho0, hb, hkp⟩; refine ⟨_, rfl, ?_⟩; replace HO224 := Yt.mk (Kd.Yp (ok' := fun k_ => some k_ ≠ (v235 : Value).ownBlock ∧ some k_ ≠ (v241 : Value).ownBlock) (Kd.V_keptB (HO224.out) hkp (fun k_ hk_ hs_ => (hk_.2) hs_)) (fun k_ hk_ => ⟨hk_.1.1.2, fun e_ => Or.elim (ho0.1 k_ e_.symm) (fun hs_ => hk_.2.1 hs_) (fun hn_ => Nat.not_le.2 hk_.2.2 hn_)⟩)); replace HO227 := Yt.mk (Kd.Yp (ok' := fun k_ => some k_ ≠ (v235 : Value).ownBlock ∧ some k_ ≠ (v241 : Value).ownBlock) (Kd.V_keptB (HO227.out) hkp (fun k_ hk_ hs_ => (hk_.2) hs_)) (fun k_ hk_ => ⟨hk_.1.1.2, fun e_ => Or.elim (ho0.1 k_ e_.symm) (fun hs_ => hk_.2.1 hs_) (fun hn_ => Nat.not_le.2 hk_.2.2 hn_)⟩)); have HO242 := Yt.mk (Kd.Zv (ok' := fun k_ => some k_ ≠ (v235 : Value).ownBlock) ho0 (fun k_ hk_ => Or.elim hk_ (fun hs_ => fun e_ => (((HO236.out).1 k_ e_.symm).2) hs_) (fun hn_ => (Kd.fresh' (Kd.R_lt (Qr1 HO236.out)) k_ hn_)))); replace HO236 := Yt.mk (Kd.Zv (ok' := fun k_ => some k_ ≠ (v241 : Value).ownBlock) (Kd.R_keptB (HO236.out) hkp (fun k_ hk_ hs_ => (hk_.2) hs_)) (fun k_ hk_ => fun e_ => Or.elim (ho0.1 k_ e_.symm) (fun hs_ => hk_.2.1 hs_) (fun hn_ => Nat.not_le.2 hk_.2.2 hn_))); replace HB := Yt.mk (hb); clear HO239; (try clear hb); (try clear hkp); (try clear ho0)))
  go_ret2
  exact ⟨_, _, Qa4, Qr1 HO236.out, Qr1 HO242.out, Qa0⟩
 rw [if_neg c14] at H
 have c14b0 : ((t225.length : Int) == 1) = false := beq_eq_false_iff_ne.mpr c14
 have c14b1 : ((t225.length : Int) != 1) = true := bne_iff_ne.mpr c14
 obtain ⟨ji28, hji28⟩ : ∃ j_ : Int, (wrap64 ((t225.length : Int) - 1)) = j_ := ⟨_, rfl⟩
 replace H : (if 0 ≤ (ji28) then (if (ji28) < (t225.length : Int) then ((bits_LeadingZeros32.f (rd t225 (ji28))).bind fun t244 => ((nats_Shl.f k t225 t244).bind fun t245 => (if 0 ≤ (wrap64 ((t222.length : Int) + 1)) then (if (wrap64 ((t222.length : Int) + 1) : Int).toNat ≤ 70368744177664 then ((some (List.replicate (wrap64 ((t222.length : Int) + 1) : Int).toNat 0 : List Int)).bind fun y248 => ((nats_Shl.f k t222 t244).bind fun t251 => (if 0 ≤ (wrap64 ((wrap64 ((t222.length : Int) - (t225.length : Int))) + 1)) then (if (wrap64 ((wrap64 ((t222.length : Int) - (t225.length : Int))) + 1) : Int).toNat ≤ 70368744177664 then ((some (List.replicate (wrap64 ((wrap64 ((t222.length : Int) - (t225.length : Int))) + 1) : Int).toNat 0 : List Int)).bind fun y255 => (nats_QuoRem.l0 k t244 t245 (t251.take y248.length ++ y248.drop t251.length) y255 (wrap64 ((y255.length : Int) - 1)))) else (none)) else (none)))) else (none)) else (none)))) else (none)) else (none)) = some (r1, r2) := by first | (rw [hji28] at H; exact H) | (simp only [hji28] at H ⊢; exact H)
 (try rw [hji28] at A3)
 (try rw [hji28] at A4)
 (try rw [hji28] at A5)
 have hji28w : (IntKind.i64.wrap ((t225.length : Int) - 1)) = ji28 := (Yi _).trans hji28
 by_cases c29 : 0 ≤ (ji28)
 rotate_left
 ·rw [if_neg c29] at H
  exact absurd H (by simp)
 rw [if_pos c29] at H
 have c29b0 : decide (0 ≤ (ji28)) = true := decide_eq_true c29
 clear c29
 by_cases c30 : (ji28) < (t225.length : Int)
 rotate_left
 ·rw [if_neg c30] at H
  exact absurd H (by simp)
 rw [if_pos c30] at H
 have c30b0 : decide ((ji28) < (t225.length : Int)) = true := decide_eq_true c30
 clear c30
 replace H := Option.bind_eq_some_iff.mp H
 obtain ⟨t244, A310, H⟩ := H
 try dsimp only at H
 have A31 := Yt.mk A310
 clear A310
 replace H := Option.bind_eq_some_iff.mp H
 obtain ⟨t245, A320, H⟩ := H
 try dsimp only at H
 have A32 := Yt.mk A320
 clear A320
 obtain ⟨ji33, hji33⟩ : ∃ j_ : Int, (wrap64 ((t222.length : Int) + 1)) = j_ := ⟨_, rfl⟩
 replace H : (if 0 ≤ (ji33) then (if (ji33 : Int).toNat ≤ 70368744177664 then ((some (List.replicate (ji33 : Int).toNat 0 : List Int)).bind fun y248 => ((nats_Shl.f k t222 t244).bind fun t251 => (if 0 ≤ (wrap64 ((wrap64 ((t222.length : Int) - (t225.length : Int))) + 1)) then (if (wrap64 ((wrap64 ((t222.length : Int) - (t225.length : Int))) + 1) : Int).toNat ≤ 70368744177664 then ((some (List.replicate (wrap64 ((wrap64 ((t222.length : Int) - (t225.length : Int))) + 1) : Int).toNat 0 : List Int)).bind fun y255 => (nats_QuoRem.l0 k t244 t245 (t251.take y248.length ++ y248.drop t251.length) y255 (wrap64 ((y255.length : Int) - 1)))) else (none)) else (none)))) else (none)) else (none)) = some (r1, r2) := by first | (rw [hji33] at H; exact H) | (simp only [hji33] at H ⊢; exact H)
 (try rw [hji33] at A3)
 (try rw [hji33] at A4)
 (try rw [hji33] at A5)
 (try rw [hji33] at A31)
 (try rw [hji33] at A32)
 have hji33w : (IntKind.i64.wrap ((t222.length : Int) + 1)) = ji33 := (Yi _).trans hji33
 by_cases c34 : 0 ≤ (ji33)
 rotate_left
 ·rw [if_neg c34] at H
  exact absurd H (by simp)
 rw [if_pos c34] at H
 have c34b0 := eq_true c34
 have c34b1 : decide (0 ≤ (ji33)) = true := decide_eq_true c34
 clear c34
 by_cases c35 : (ji33 : Int).toNat ≤ 70368744177664
 rotate_left
 ·rw [if_neg c35] at H
  exact absurd H (by simp)
 rw [if_pos c35] at H
 have c35b0 := eq_true c35
 have c35b1 : decide ((ji33 : Int).toNat ≤ 70368744177664) = true := decide_eq_true c35
 clear c35
 obtain ⟨y248, hy248⟩ : ∃ y_ : List Int, y_ = (List.replicate (ji33 : Int).toNat 0) := ⟨_, rfl⟩
 replace H : ((nats_Shl.f k t222 t244).bind fun t251 => (if 0 ≤ (wrap64 ((wrap64 ((t222.length : Int) - (t225.length : Int))) + 1)) then (if (wrap64 ((wrap64 ((t222.length : Int) - (t225.length : Int))) + 1) : Int).toNat ≤ 70368744177664 then ((some (List.replicate (wrap64 ((wrap64 ((t222.length : Int) - (t225.length : Int))) + 1) : Int).toNat 0 : List Int)).bind fun y255 => (nats_QuoRem.l0 k t244 t245 (t251.take y248.length ++ y248.drop t251.length) y255 (wrap64 ((y255.length : Int) - 1)))) else (none)) else (none))) = some (r1, r2) := Qh hy248 H
 have Ny248 := Yt.mk hy248
 clear hy248
 replace H := Option.bind_eq_some_iff.mp H
 obtain ⟨t251, A360, H⟩ := H
 try dsimp only at H
 have A36 := Yt.mk A360
 clear A360
 obtain ⟨y254, hy254⟩ : ∃ y_ : List Int, y_ = (t251.take y248.length ++ y248.drop t251.length) := ⟨_, rfl⟩
 replace H : (if 0 ≤ (wrap64 ((wrap64 ((t222.length : Int) - (t225.length : Int))) + 1)) then (if (wrap64 ((wrap64 ((t222.length : Int) - (t225.length : Int))) + 1) : Int).toNat ≤ 70368744177664 then ((some (List.replicate (wrap64 ((wrap64 ((t222.length : Int) - (t225.length : Int))) + 1) : Int).toNat 0 : List Int)).bind fun y255 => (nats_QuoRem.l0 k t244 t245 y254 y255 (wrap64 ((y255.length : Int) - 1)))) else (none)) else (none)) = some (r1, r2) := Qh hy254 H
 have Ny254 := Yt.mk hy254
 clear hy254
 obtain ⟨ji37, hji37⟩ : ∃ j_ : Int, (wrap64 ((wrap64 ((t222.length : Int) - (t225.length : Int))) + 1)) = j_ := ⟨_, rfl⟩
 replace H : (if 0 ≤ (ji37) then (if (ji37 : Int).toNat ≤ 70368744177664 then ((some (List.replicate (ji37 : Int).toNat 0 : List Int)).bind fun y255 => (nats_QuoRem.l0 k t244 t245 y254 y255 (wrap64 ((y255.length : Int) - 1)))) else (none)) else (none)) = some (r1, r2) := by first | (rw [hji37] at H; exact H) | (simp only [hji37] at H ⊢; exact H)
 (try rw [hji37] at A3)
 (try rw [hji37] at A4)
 (try rw [hji37] at A5)
 (try rw [hji37] at A31)
 (try rw [hji37] at A32)
 (try rw [hji37] at A36)
 have hji37w : (IntKind.i64.wrap ((wrap64 ((t222.length : Int) - (t225.length : Int))) + 1)) = ji37 := (Yi _).trans hji37
 by_cases c38 : 0 ≤ (ji37)
 rotate_left
 ·rw [if_neg c38] at H
  exact absurd H (by simp)
 rw [if_pos c38] at H
 have c38b0 := eq_true c38
 have c38b1 : decide (0 ≤ (ji37)) = true := decide_eq_true c38
 clear c38
 by_cases c39 : (ji37 : Int).toNat ≤ 70368744177664
 rotate_left
 ·rw [if_neg c39] at H
  exact absurd H (by simp)
 rw [if_pos c39] at H
 have c39b0 := eq_true c39
 have c39b1 : decide ((ji37 : Int).toNat ≤ 70368744177664) = true := decide_eq_true c39
 clear c39
 obtain ⟨y255, hy255⟩ : ∃ y_ : List Int, y_ = (List.replicate (ji37 : Int).toNat 0) := ⟨_, rfl⟩
 replace H : (nats_QuoRem.l0 k t244 t245 y254 y255 (wrap64 ((y255.length : Int) - 1))) = some (r1, r2) := Qh hy255 H
 have Ny255 := Yt.mk hy255
 clear hy255
 have H' := Yt.mk H
 clear H
 go_enter Try.func83, Try.ntmps83
 go_wp2_with (first | ((with_reducible refine Zr (f := 108) rfl ?_); refine Yg (some 14) rfl rfl Try.func108 Qa8 rfl #[.slice A0 l0.length c0] rfl Qa2 ?_; (with_reducible refine (nats_cut.calls k (fun k_ => k_ < w.heap.size) _ _ l0 t222 _ ?side1 A3.out).mono ?_); (case side1 => exact Kd.V_mk HC0.out (Kd.F_below (Kd.C_F (Kd.heap_int .u32) HR0.out) (Qa0))); rintro e w40 ⟨v223, rfl, ho0, hb⟩; refine ⟨_, rfl, ?_⟩; have HO224 := Yt.mk (Kd.V_lower (Kd.Yp (ok' := fun k_ => True) ho0 (fun k_ hk_ => trivial)) (Zk (Qa0))); replace HB := Yt.mk (Zm (Qa0) hb); (try clear hb); (try clear ho0)) | ((with_reducible refine Zr (f := 108) rfl ?_); refine Yg (some 16) rfl rfl Try.func108 Qa8 rfl #[.slice A1 l1.length c1] rfl Qa2 ?_; (with_reducible refine (nats_cut.calls k (fun k_ => k_ < w.heap.size) _ _ l1 t225 _ ?side1 A4.out).mono ?_); (case side1 => exact Kd.V_mk HC1.out (Kd.F_below (Kd.C_F (Kd.heap_int .u32) HR1.out) (Qa0))); rintro e w41 ⟨v226, rfl, ho0, hb⟩; refine ⟨_, rfl, ?_⟩; replace HO224 := Yt.mk (Kd.Yr (Qr7 HO224.out) hb); have HO227 := Yt.mk (Kd.V_lower (Kd.Yp (ok' := fun k_ => True) ho0 (fun k_ hk_ => trivial)) (Zk (Qa0))); replace HB := Yt.mk (Zm (Qa0) hb); (try clear hb); (try clear ho0); obtain ⟨Ao42, co42, eo42⟩ := Kd.V_slice HO224.out; subst eo42; obtain ⟨Ao43, co43, eo43⟩ := Kd.V_slice HO227.out; subst eo43) | ((with_reducible refine Zr (f := 89) rfl ?_); refine Yg (some 19) rfl rfl Try.func89 Qa8 rfl #[.slice Ao42 t222.length co42, .slice Ao43 t225.length co43] rfl Qa2 ?_; (with_reducible refine (nats_Cmp.calls k _ _ t222 _ _ t225 t228 _ ?side1 ?side2 ?side3 ?side4 A5.out).mono ?_); (case side1 => exact Qe11 (Kd.Yn HO224.out).2.2); (case side2 => exact (Kd.Yn HO224.out).2.1); (case side3 => exact Qe11 (Kd.Yn HO227.out).2.2); (case side4 => exact (Kd.Yn HO227.out).2.1); rintro e w44 ⟨rfl, hb⟩; refine ⟨_, rfl, ?_⟩; replace HO224 := Yt.mk (Kd.Yr (Qr7 HO224.out) hb); replace HO227 := Yt.mk (Kd.Yr (Qr7 HO227.out) hb); replace HB := Yt.mk (Zm (Qa0) hb); (try clear hb); have p243 : 0 ≤ ((ji28) : Int) := Qd; have q243 : (ji28) < (t225.length : Int) := Qd; obtain ⟨ad243, e243, hx243_0⟩ := Kd.at_int (Kd.Yn HO227.out).2.2 (ji28) p243 q243; cases e243; replace p243 := eq_true p243; replace q243 := eq_true q243) | ((with_reducible refine Zr (f := 111) rfl ?_); refine Yg (some 44) rfl rfl Try.func111 Qa8 rfl #[.int .u32 (rd t225 (ji28))] rfl (by (try simp only [List.map_toArray, List.map_cons, List.map_nil]); first | done | (simp only [hji28]; rfl) | rfl | (simp only [List.length_drop, List.length_take]; rfl)) ?_; (with_reducible refine (bits_LeadingZeros32.calls (rd t225 (ji28)) t244 _ A31.out).mono ?_); rintro e w' ⟨rfl, ⟨nd, rfl⟩⟩; refine ⟨_, rfl, ?_⟩) | ((with_reducible refine Zr (f := 112) rfl ?_); refine Yg (some 47) rfl rfl Try.func112 Qa8 rfl #[.slice (some ad243) t225.length co43, .int .i64 t244] rfl Qa2 ?_; (with_reducible refine (nats_Shl.calls k _ _ t225 t244 t245 _ ?side1 ?side2 A32.out).mono ?_); (case side1 => exact Qe11 (Kd.Yn HO227.out).2.2); (case side2 => exact (Kd.Yn HO227.out).2.1); rintro e w45 ⟨v246, rfl, ho0, hb⟩; refine ⟨_, rfl, ?_⟩; replace HO224 := Yt.mk (Kd.V_elder' (Qr7 HO224.out) (Kd.Zw ho0) hb); replace HO227 := Yt.mk (Kd.V_elder' (Qr7 HO227.out) (Kd.Zw ho0) hb); have HO247 := Yt.mk (Kd.Yb ho0 (Zk (Qa0))); replace HB := Yt.mk (Zm (Qa0) hb); (try clear hb); (try clear ho0)) | ((with_reducible refine Yk (N := 51) rfl ?_); refine Kd.R_make (Kd.int .u32) _ 47 rfl (N := 51) rfl 22 _ _ rfl ji33 rfl rfl Try.underlying22 (.int .u32 0) 4 info47 rfl (by decide) (by omega) 0 (ok := fun _ => True) (okp := fun _ => True) rfl (fun _ hk => hk) trivial (Qd) (Nat.le_trans (Nat.mul_le_mul_right _ (Qd : ji33.toNat ≤ 70368744177664)) (by omega)) (Below.refl _ _) (Nat.le_refl _) ?_; intro v249 w46 ho47 hb hg_ hnew_; clear hg_ hnew_; (first | rw [← Ny248.out] at ho47 | (simp only [Int.reduceToNat] at ho47; rw [← Ny248.out] at ho47)); replace HO224 := Yt.mk (Kd.V_elder' (Qr7 HO224.out) (Kd.Zw ho47) hb); replace HO227 := Yt.mk (Kd.V_elder' (Qr7 HO227.out) (Kd.Zw ho47) hb); have HO250 := Yt.mk (Kd.Yb (Kd.Ya ho47 (Kd.R_lt (Qr1 HO247.out))) (Zk (Qa0))); replace HO247 := Yt.mk (Kd.Yf (Qr1 HO247.out) (Kd.Zw ho47) hb); replace HB := Yt.mk (Zm (Qa0) hb); clear hb ho47) | ((with_reducible refine Zr (f := 112) rfl ?_); refine Yg (some 55) rfl rfl Try.func112 Qa8 rfl #[.slice Ao42 t222.length co42, .int .i64 t244] rfl Qa2 ?_; (with_reducible refine (nats_Shl.calls k _ _ t222 t244 t251 _ ?side1 ?side2 A36.out).mono ?_); (case side1 => exact Qe11 (Kd.Yn HO224.out).2.2); (case side2 => exact (Kd.Yn HO224.out).2.1); rintro e w48 ⟨v252, rfl, ho0, hb⟩; refine ⟨_, rfl, ?_⟩; replace HO224 := Yt.mk (Kd.V_elder' (Qr7 HO224.out) (Kd.Zw ho0) hb); replace HO227 := Yt.mk (Kd.V_elder' (Qr7 HO227.out) (Kd.Zw ho0) hb); have HO253 := Yt.mk (Kd.Yb (Kd.Ya (Kd.Ya ho0 (Kd.R_lt (Qr1 HO247.out))) (Kd.R_lt (Qr1 HO250.out))) (Zk (Qa0))); replace HO247 := Yt.mk (Kd.Yf (Qr1 HO247.out) (Kd.Zw ho0) hb); replace HO250 := Yt.mk (Kd.Yf (Qr1 HO250.out) (Kd.Zw ho0) hb); replace HB := Yt.mk (Zm (Qa0) hb); (try clear hb); (try clear ho0); obtain ⟨Ao51, co51, eo51⟩ := Kd.Zx HO253.out; subst eo51; obtain ⟨Ao52, co52, eo52⟩ := Kd.Zx HO250.out; subst eo52; have n_ := Yt.mk (Kd.Zv (ok' := (fun k_ => some k_ ≠ (v246 : Value).ownBlock ∧ some k_ ≠ (.slice Ao51 t251.length co51 : Value).ownBlock)) HO250.out (fun k_ hk => ⟨hk.1.2, hk.2⟩)); clear HO250; have HO250 := n_; clear n_) | ((with_reducible refine gate_builtin (b := .copy) (xs := #[.tmp 52, .tmp 55]) rfl ?_); refine Mine.R_copy (k := .u32) (w0 := w) w.heap.size 47 rfl (.tmp 52) (.tmp 55) 22 rfl Try.underlying22 (.int .u32 0) 4 info47 (.slice Ao52 y248.length co52) y248 t251 ?cA ?cc (ok := ?cok) (hs := ?cs) (hx := ?cx) ?cO ?cR ?cB ?_; (case cs => rfl); (case cx => rfl); (case cO => exact (Qr1 HO250.out)); (case cR => exact Qe11 (Kd.Zs HO253.out).2.2); (case cB => exact (Qa0)); intro w50 ho hb hg; rw [← Ny254.out] at ho; replace HO224 := Yt.mk (Kd.V_afterv (v := (.slice Ao52 y248.length co52)) (v1 := (.slice Ao52 y248.length co52)) (ok := (fun k_ => some k_ ≠ (v246 : Value).ownBlock ∧ some k_ ≠ (.slice Ao51 t251.length co51 : Value).ownBlock)) (by (with_reducible repeat (first | apply Kd.Zz | apply Kd.Zy | apply Kd.Ye)); exact Kd.Yp HO224.out (fun _ hk => ⟨⟨hk.1.1.2, hk.2⟩, hk.1.2⟩)) hg (.inl rfl)); replace HO227 := Yt.mk (Kd.V_afterv (v := (.slice Ao52 y248.length co52)) (v1 := (.slice Ao52 y248.length co52)) (ok := (fun k_ => some k_ ≠ (v246 : Value).ownBlock ∧ some k_ ≠ (.slice Ao51 t251.length co51 : Value).ownBlock)) (by (with_reducible repeat (first | apply Kd.Zz | apply Kd.Zy | apply Kd.Ye)); exact Kd.Yp HO227.out (fun _ hk => ⟨⟨hk.1.1.2, hk.2⟩, hk.1.2⟩)) hg (.inl rfl)); replace HO247 := Yt.mk (Kd.R_after (v := (.slice Ao52 y248.length co52)) (v1 := (.slice Ao52 y248.length co52)) (ok := (fun k_ => some k_ ≠ (.slice Ao51 t251.length co51 : Value).ownBlock)) (by (with_reducible repeat (first | apply Kd.Zf | apply Kd.Ze | apply Kd.Zj)); exact Kd.Zv HO247.out (fun _ hk => ⟨hk.2, hk.1.2⟩)) hg (.inl rfl)); replace HO250 := Yt.mk (ho); replace HO253 := Yt.mk (Kd.R_after (v := (.slice Ao52 y248.length co52)) (v1 := (.slice Ao52 y248.length co52)) (ok := (fun k_ => some k_ ≠ (v246 : Value).ownBlock)) (by (with_reducible repeat (first | apply Kd.Zf | apply Kd.Ze | apply Kd.Zj)); exact Kd.Zv HO253.out (fun _ hk => ⟨hk.1.2, hk.2⟩)) hg (.inl rfl)); replace HB := Yt.mk (hb); clear ho hb hg) | ((with_reducible refine Yk (N := 63) rfl ?_); refine Kd.R_make (Kd.int .u32) _ 47 rfl (N := 63) rfl 22 _ _ rfl ji37 rfl rfl Try.underlying22 (.int .u32 0) 4 info47 rfl (by decide) (by omega) 0 (ok := fun _ => True) (okp := fun _ => True) rfl (fun _ hk => hk) trivial (Qd) (Nat.le_trans (Nat.mul_le_mul_right _ (Qd : ji37.toNat ≤ 70368744177664)) (by omega)) (Below.refl _ _) (Nat.le_refl _) ?_; intro v256 w53 ho54 hb hg_ hnew_; clear hg_ hnew_; (first | rw [← Ny255.out] at ho54 | (simp only [Int.reduceToNat] at ho54; rw [← Ny255.out] at ho54)); replace HO224 := Yt.mk (Kd.V_elder' (Qr7 HO224.out) (Kd.Zw ho54) hb); replace HO227 := Yt.mk (Kd.V_elder' (Qr7 HO227.out) (Kd.Zw ho54) hb); have HO257 := Yt.mk (Kd.Yb (Kd.Ya (Kd.Ya (Kd.Ya ho54 (Kd.R_lt (Qr1 HO247.out))) (Kd.R_lt (Qr1 HO250.out))) (Kd.R_lt (Qr1 HO253.out))) (Zk (Qa0))); replace HO247 := Yt.mk (Kd.Yf (Qr1 HO247.out) (Kd.Zw ho54) hb); replace HO250 := Yt.mk (Kd.Yf (Qr1 HO250.out) (Kd.Zw ho54) hb); replace HO253 := Yt.mk (Kd.Yf (Qr1 HO253.out) (Kd.Zw ho54) hb); replace HB := Yt.mk (Zm (Qa0) hb); clear hb ho54; obtain ⟨Ao55, co55, eo55⟩ := Kd.Zx HO257.out; subst eo55))
 go_loopg [12] k (fun kq v12 w' => ∃ (x10_1 : List Int) (x11_1 : List Int) (x12_1 : Int), v12 = .int .i64 x12_1 ∧ Yt (nats_QuoRem.l0 kq t244 t245 x10_1 x11_1 x12_1 = some (r1, r2)) ∧ Yt (kq ≤ k) ∧ Yt (Kd.R (Kd.int .u32) 47 w' w.heap.size (fun k_ => some k_ ≠ ((.slice Ao52 y248.length co52) : Value).ownBlock ∧ some k_ ≠ ((.slice Ao55 y255.length co55) : Value).ownBlock) v246 t245) ∧ Yt (Kd.R (Kd.int .u32) 47 w' w.heap.size (fun k_ => some k_ ≠ (v246 : Value).ownBlock ∧ some k_ ≠ ((.slice Ao55 y255.length co55) : Value).ownBlock) (.slice Ao52 y248.length co52) x10_1) ∧ Yt (Kd.R (Kd.int .u32) 47 w' w.heap.size (fun k_ => some k_ ≠ (v246 : Value).ownBlock ∧ some k_ ≠ ((.slice Ao52 y248.length co52) : Value).ownBlock) (.slice Ao55 y255.length co55) x11_1) ∧ Yt (Below w.heap.size w w'))
 case atStart => exact ⟨(y254), (y255), (wrap64 ((y255.length : Int) - 1)), Qa5, H', ⟨Nat.le_refl _⟩, ⟨by (with_reducible repeat (first | apply Kd.Zf | apply Kd.Ze | apply Kd.Zj)); exact Kd.Zv HO247.out (fun _ hk => ⟨hk.1.2, hk.2⟩)⟩, ⟨by (with_reducible repeat (first | apply Kd.Zf | apply Kd.Ze | apply Kd.Zj)); exact Kd.Zv HO250.out (fun _ hk => ⟨hk.1.1, hk.2⟩)⟩, ⟨by (with_reducible repeat (first | apply Kd.Zf | apply Kd.Ze | apply Kd.Zj)); exact Kd.Zv HO257.out (fun _ hk => ⟨hk.1.1.2, hk.1.2⟩)⟩, ⟨Qa0⟩⟩
 case round =>
  clear H'
  try clear c1; try clear c2; try clear p2; try clear q2; try clear hx2; try clear qi2; try clear c3; try clear c6; try clear c6b0; try clear p6; try clear c8; try clear c9; try clear c10; try clear c11; try clear c14; try clear c14b0; try clear c14b1; try clear c15; try clear c15b0; try clear c15b1; try clear p23; try clear q23; try clear hx23; try clear qi23; try clear p24; try clear q24; try clear hx24; try clear c29; try clear c29b0; try clear c30; try clear c30b0; try clear c34; try clear c34b0; try clear c34b1; try clear c35; try clear c35b0; try clear c35b1; try clear c38; try clear c38b0; try clear c38b1; try clear c39; try clear c39b0; try clear c39b1; try clear hx232_0; try clear hx243_0; try clear p232; try clear p243; try clear q232; try clear q243
  obtain ⟨x10_1, x11_1, x12_1, rfl, HA, HK1, HO_9, HO_10, HO_11, HB⟩ := hrel
  have hl10_1 := (Kd.Zs HO_10.out).1
  rw [hl10_1] at HO_10
  (try simp only [hl10_1])
  (try simp only [hl10_1] at HO_9)
  (try simp only [hl10_1] at HO_11)
  have hl11_1 := (Kd.Zs HO_11.out).1
  rw [hl11_1] at HO_11
  (try simp only [hl11_1])
  (try simp only [hl11_1] at HO_9)
  (try simp only [hl11_1] at HO_10)
  cases gk with
  | zero => exact absurd HA.out (by simp [nats_QuoRem.l0])
  | succ k1 =>
   have H := HA.out
   clear HA
   simp only [nats_QuoRem.l0] at H
   by_cases c56 : x12_1 ≥ 0
   rotate_left
   ·rw [if_neg c56] at H
    have c56b0 : decide (0 ≤ x12_1) = false := decide_eq_false c56
    clear c56
    replace H := Option.bind_eq_some_iff.mp H
    obtain ⟨t261, A680, H⟩ := H
    try dsimp only at H
    have A68 := Yt.mk A680
    clear A680
    replace H := Option.bind_eq_some_iff.mp H
    obtain ⟨t264, A690, H⟩ := H
    replace H : (some (t261, t264)) = some (r1, r2) := H
    have A69 := Yt.mk A690
    clear A690
    simp only [Option.some.injEq, Prod.mk.injEq] at H
    obtain ⟨rfl, rfl⟩ := H
    go_wp2_with (first | ((with_reducible refine Zr (f := 108) rfl ?_); refine Yg (some 85) rfl rfl Try.func108 Qa8 rfl #[.slice Ao55 x11_1.length co55] rfl Qa2 ?_; (with_reducible refine (nats_cuto.calls k1 (fun k_ => some k_ = (.slice Ao55 x11_1.length co55 : Value).ownBlock) (.slice Ao55 x11_1.length co55) x11_1 t261 w _ ?side1 ?side2 A68.out).mono ?_); (case side1 => repeat (first | (with_reducible first | exact HB.out | apply Zb | apply Za | apply Zc) | exact HB.out)); (case side2 => exact Kd.R_tight rfl HO_11.out); rintro e w70 ⟨v262, rfl, ho0, hb, hkp⟩; refine ⟨_, rfl, ?_⟩; have HO263 := Yt.mk (Kd.Zv (ok' := fun k_ => some k_ ≠ (v246 : Value).ownBlock ∧ some k_ ≠ (.slice Ao52 x10_1.length co52 : Value).ownBlock) ho0 (fun k_ hk_ => ⟨Or.elim hk_ (fun hs_ => fun e_ => (((HO_9.out).1 k_ e_.symm).2) hs_) (fun hn_ => (Kd.fresh' (Kd.R_lt (Qr1 HO_9.out)) k_ hn_)), Or.elim hk_ (fun hs_ => fun e_ => (((HO_10.out).1 k_ e_.symm).2) hs_) (fun hn_ => (Kd.fresh' (Kd.R_lt (Qr1 HO_10.out)) k_ hn_))⟩)); replace HO_9 := Yt.mk (Kd.Zv (ok' := fun k_ => some k_ ≠ (.slice Ao52 x10_1.length co52 : Value).ownBlock ∧ some k_ ≠ (v262 : Value).ownBlock) (Kd.R_keptB (HO_9.out) hkp (fun k_ hk_ hs_ => (hk_.2) hs_)) (fun k_ hk_ => ⟨hk_.1.1, fun e_ => Or.elim (ho0.1 k_ e_.symm) (fun hs_ => hk_.2.1 hs_) (fun hn_ => Nat.not_le.2 hk_.2.2 hn_)⟩)); replace HO_10 := Yt.mk (Kd.Zv (ok' := fun k_ => some k_ ≠ (v246 : Value).ownBlock ∧ some k_ ≠ (v262 : Value).ownBlock) (Kd.R_keptB (HO_10.out) hkp (fun k_ hk_ hs_ => (hk_.2) hs_)) (fun k_ hk_ => ⟨hk_.1.1, fun e_ => Or.elim (ho0.1 k_ e_.symm) (fun hs_ => hk_.2.1 hs_) (fun hn_ => Nat.not_le.2 hk_.2.2 hn_)⟩)); replace HB := Yt.mk (hb); clear HO_11; (try clear hb); (try clear hkp); (try clear ho0)) | ((with_reducible refine Zr (f := 114) rfl ?_); refine Yg (some 88) rfl rfl Try.func114 Qa8 rfl #[.slice Ao52 x10_1.length co52, .int .i64 t244] rfl Qa2 ?_; (with_reducible refine (nats_Shr.calls k1 _ _ x10_1 t244 t264 _ ?side1 ?side2 A69.out).mono ?_); (case side1 => exact Qe11 (Kd.Zs HO_10.out).2.2); (case side2 => exact (Kd.Zs HO_10.out).2.1); rintro e w71 ⟨v265, rfl, ho0, hb⟩; refine ⟨_, rfl, ?_⟩; have HO266 := Yt.mk (Kd.Yb (Kd.Ya (Kd.Ya (Kd.Ya ho0 (Kd.R_lt (Qr1 HO_9.out))) (Kd.R_lt (Qr1 HO_10.out))) (Kd.R_lt (Qr1 HO263.out))) (Zk (Qa0))); replace HO_9 := Yt.mk (Kd.Yf (Qr1 HO_9.out) (Kd.Zw ho0) hb); replace HO_10 := Yt.mk (Kd.Yf (Qr1 HO_10.out) (Kd.Zw ho0) hb); replace HO263 := Yt.mk (Kd.Yf (Qr1 HO263.out) (Kd.Zw ho0) hb); replace HB := Yt.mk (Zm (Qa0) hb); (try clear hb); (try clear ho0)))
    go_ret2
    exact ⟨_, _, by first | rfl | (simp [Zp, Zo] <;> rfl) | (simp only [← hji28, ← hji33, ← hji37]; first | rfl | (simp [Zp, Zo] <;> rfl)) | (simp [*, Zp, Zo] <;> rfl), by (with_reducible repeat (first | apply Kd.Zf | apply Kd.Ze | apply Kd.Zj)); exact Kd.Zv HO263.out (fun _ hk => hk.2), by (with_reducible repeat (first | apply Kd.Zf | apply Kd.Ze | apply Kd.Zj)); exact Kd.Zv HO266.out (fun _ hk => hk.2), Qa0⟩
   rw [if_pos c56] at H
   have c56b0 : decide (0 ≤ x12_1) = true := decide_eq_true c56
   clear c56
   by_cases c57 : 0 ≤ x12_1
   rotate_left
   ·rw [if_neg c57] at H
    exact absurd H (by simp)
   rw [if_pos c57] at H
   have c57b0 := eq_true c57
   have c57b1 : decide (0 ≤ x12_1) = true := decide_eq_true c57
   clear c57
   by_cases c58 : x12_1 < (wrap64 ((wrap64 (x12_1 + (t245.length : Int))) + 1))
   rotate_left
   ·rw [if_neg c58] at H
    exact absurd H (by simp)
   rw [if_pos c58] at H
   have c58b0 := eq_true c58
   have c58b1 : decide (x12_1 < (wrap64 ((wrap64 (x12_1 + (t245.length : Int))) + 1))) = true := decide_eq_true c58
   by_cases c59 : (wrap64 ((wrap64 (x12_1 + (t245.length : Int))) + 1)) ≤ (x10_1.length : Int)
   rotate_left
   ·rw [if_neg c59] at H
    exact absurd H (by simp)
   rw [if_pos c59] at H
   have c59b0 := eq_true c59
   have c59b1 : decide ((wrap64 ((wrap64 (x12_1 + (t245.length : Int))) + 1)) ≤ (x10_1.length : Int)) = true := decide_eq_true c59
   replace H := Option.bind_eq_some_iff.mp H
   obtain ⟨⟨t258, t259⟩, A600, H⟩ := H
   try dsimp only at H
   have A60 := Yt.mk A600
   clear A600
   by_cases c61 : x12_1 < (x11_1.length : Int)
   rotate_left
   ·rw [if_neg c61] at H
    exact absurd H (by simp)
   rw [if_pos c61] at H
   have c61b0 : decide (x12_1 < (x11_1.length : Int)) = true := decide_eq_true c61
   (try (have c61b0hl10_1 := c61b0; rw [hl10_1] at c61b0hl10_1))
   (try (have c61b0hl11_1 := c61b0; rw [hl11_1] at c61b0hl11_1))
   clear c61
   obtain ⟨y260, hy260⟩ : ∃ y_ : List Int, y_ = (x11_1.set (x12_1 : Int).toNat t258) := ⟨_, rfl⟩
   replace H : (nats_QuoRem.l0 k1 t244 t245 t259 y260 (wrap64 (x12_1 - 1))) = some (r1, r2) := Qh hy260 H
   have Ny260 := Yt.mk hy260
   clear hy260
   have H' := Yt.mk H
   clear H
   obtain ⟨Ao63, co63, eo63⟩ := Kd.Zx HO_9.out
   subst eo63
   have p64 : 0 ≤ (x12_1 : Int) := Qd
   have ql64 : (x12_1 : Int) < ((wrap64 ((wrap64 (x12_1 + (t245.length : Int))) + 1)) : Int) := Qd
   have q64 : ((wrap64 ((wrap64 (x12_1 + (t245.length : Int))) + 1)) : Int) ≤ ((x10_1.length : Int) : Int) := Qd
   obtain ⟨go64, co64, eo64, gb64, gl64, cl64, HG64⟩ := Kd.R_form HO_10.out (by omega)
   (first | cases eo64 | (injection eo64 with ea_ en_ ec_; (first | subst ea_ | (injection ea_ with ea_; subst ea_)); subst ec_; clear en_))
   have GB64 := Yt.mk gb64
   have GG64 := Yt.mk HG64
   clear gb64 gl64 HG64
   obtain ⟨i064, hi064, _, hsz64, _⟩ := info_parts info47
   have hcut64 := Mine.seg_cut (P := Try.prog) 22 47 Try.underlying22 hi064 hsz64 go64 x10_1.length co52 x12_1 (wrap64 ((wrap64 (x12_1 + (t245.length : Int))) + 1)) p64 ql64 q64 (Kd.Zs HO_10.out).2.1
   clear hi064 hsz64
   replace p64 := eq_true p64
   replace ql64 := eq_true ql64
   replace q64 := eq_true q64
   go_wp2_with (first | ((with_reducible refine Zr (f := 113) rfl ?_); refine Yg (some 82) rfl rfl Try.func113 Qa8 rfl #[.slice (some ⟨go64, x12_1.toNat, none⟩) ((wrap64 ((wrap64 (x12_1 + (t245.length : Int))) + 1)).toNat - x12_1.toNat) (co52 - x12_1.toNat), .slice Ao63 t245.length co63] rfl Qa2 ?_; (refine (nats_digitat.calls k1 (fun k_ => some k_ = (.slice (some ⟨go64, 0, none⟩) x10_1.length co52 : Value).ownBlock) (.slice (some ⟨go64, 0, none⟩) x10_1.length co52) x10_1 x12_1 (wrap64 ((wrap64 (x12_1 + (t245.length : Int))) + 1)) _ _ t245 t258 t259 w _ ?side1 ?side2 ?side3 ?side4 A60.out).mono ?_); (case side1 => repeat (first | (with_reducible first | exact HB.out | apply Zb | apply Za | apply Zc) | exact HB.out)); (case side2 => exact Kd.R_tight rfl HO_10.out); (case side3 => exact Kd.C_kept_own (HO_9.out) (fun k_ hk_ hs_ => (hk_.1) hs_)); (case side4 => exact (Kd.Zs HO_9.out).2.1); rintro e w65 ⟨rfl, hy0, hb, hkp⟩; refine ⟨_, rfl, ?_⟩; replace HO_9 := Yt.mk (Kd.Zv (ok' := fun k_ => some k_ ≠ (.slice (some ⟨go64, 0, none⟩) x10_1.length co52 : Value).ownBlock ∧ some k_ ≠ (.slice Ao55 x11_1.length co55 : Value).ownBlock) (Kd.R_keptB (HO_9.out) hkp (fun k_ hk_ hs_ => (hk_.1) hs_)) (fun k_ hk_ => ⟨hk_.1.1, hk_.1.2⟩)); replace HO_10 := Yt.mk (Kd.R_reok rfl hy0 (fun k_ e_ => HO_10.out.1 k_ e_)); replace HO_11 := Yt.mk (Kd.Zv (ok' := fun k_ => some k_ ≠ (.slice Ao63 t245.length co63 : Value).ownBlock ∧ some k_ ≠ (.slice (some ⟨go64, 0, none⟩) x10_1.length co52 : Value).ownBlock) (Kd.R_keptB (HO_11.out) hkp (fun k_ hk_ hs_ => (hk_.2) hs_)) (fun k_ hk_ => ⟨hk_.1.1, hk_.1.2⟩)); replace HB := Yt.mk (hb); (try clear hb); (try clear hkp); (try clear hy0); have p62 : 0 ≤ (x12_1 : Int) := Qd; have q62 : (x12_1 : Int) < ((x11_1.length : Int) : Int) := Qd; obtain ⟨go62, co62, eo62, gb62, gl62, cl62, HG62⟩ := Kd.R_form HO_11.out (by omega); (first | cases eo62 | (injection eo62 with ea_ en_ ec_; (first | subst ea_ | (injection ea_ with ea_; subst ea_)); subst ec_; clear en_)); have GB62 := Yt.mk gb62; have GG62 := Yt.mk HG62; clear gb62 gl62 HG62; obtain ⟨hx62_0, hf62_0⟩ := Kd.R_celln 0 HO_11.out (x12_1 : Int) p62 q62; replace p62 := eq_true p62; replace q62 := eq_true q62; obtain ⟨hy66_, hz66_⟩ := Kd.R_celln 0 HO_11.out (x12_1 : Int) (Qd) (Qd); have HP66 := Kd.R_putg HO_11.out (x12_1 : Int) t258) | ((with_reducible refine gate_store (t := 47) (p := 83) rfl ?_); refine store_event (t := 47) (p := 83) (v := ?vo_w67) (w1 := (w65.setCell ⟨go62, (x12_1 : Int).toNat, none⟩ (.int .u32 t258))) ?hg ?ho ?hn ?hr ?_; (case ho => rfl); (case hg => rfl); (case hn => rfl); (case hr => exact Qa9); intro w67 hw; have hg : w65.grownBy w67 (some go62) := (by rw [hw]; exact HP66.2); have hp_ : Kd.R (Kd.int .u32) 47 w67 w.heap.size (fun k_ => some k_ ≠ (.slice Ao63 t245.length co63 : Value).ownBlock ∧ some k_ ≠ (.slice (some ⟨go64, 0, none⟩) x10_1.length co52 : Value).ownBlock) (.slice (some ⟨go62, 0, none⟩) x11_1.length co55) y260 := (by rw [hw, Ny260.out]; exact HP66.1); clear HP66; replace HO_9 := Yt.mk (Kd.R_after (v := (.slice (some ⟨go62, 0, none⟩) x11_1.length co55)) (v1 := (.slice (some ⟨go62, 0, none⟩) x11_1.length co55)) (ok := (fun k_ => some k_ ≠ (.slice (some ⟨go64, 0, none⟩) x10_1.length co52 : Value).ownBlock)) (Qr1 HO_9.out) hg (.inl rfl)); replace HO_10 := Yt.mk (Kd.R_after (v := (.slice (some ⟨go62, 0, none⟩) x11_1.length co55)) (v1 := (.slice (some ⟨go62, 0, none⟩) x11_1.length co55)) (ok := (fun k_ => some k_ ≠ (.slice Ao63 t245.length co63 : Value).ownBlock)) (Qr1 HO_10.out) hg (.inl rfl)); replace HO_11 := Yt.mk (hp_); replace HB := Yt.mk ((by rw [hw]; exact Zd (HB.out) GB62.out : Below w.heap.size w w67)); clear hg hw hp_))
   (try simp only [← hl10_1, ← hl11_1])
   go_roundg k1
   case measure => have := HK1.out; omega
   case rel => exact ⟨(t259), (y260), (wrap64 (x12_1 - 1)), Qa5, H', ⟨by have := HK1.out; omega⟩, ⟨by (try simp only [hl10_1]); (try simp only [hl11_1]); (with_reducible repeat (first | apply Kd.Zf | apply Kd.Ze | apply Kd.Zj)); exact HO_9.out⟩, ⟨by (try simp only [hl10_1]); (try simp only [hl11_1]); (with_reducible repeat (first | apply Kd.Zf | apply Kd.Ze | apply Kd.Zj)); exact HO_10.out⟩, ⟨by (try simp only [hl10_1]); (try simp only [hl11_1]); (with_reducible repeat (first | apply Kd.Zf | apply Kd.Ze | apply Kd.Zj)); exact HO_11.out⟩, ⟨Qa0⟩⟩
def nats_Gcd.l0 : Nat → List Int → List Int → Option (List Int)
 | 0, _, _ => none
 | k + 1, x0, x1 => if (x1.length : Int) > 0 then ((nats_QuoRem.f k x0 x1).bind fun bt669 => (nats_Gcd.l0 k x1 bt669.2)) else ((nats_Trim.f k x0).bind fun t675 => (some t675))
def nats_Gcd.f (k : Nat) (l0 : List Int) (l1 : List Int) : Option (List Int) := (nats_Trim.f k l0).bind fun t663 => ((nats_Trim.f k l1).bind fun t666 => (nats_Gcd.l0 k t663 t666))
theorem nats_Gcd.mono_l : ∀ k, (∀ y0 y1, LeO (nats_Gcd.l0 k y0 y1) (nats_Gcd.l0 (k + 1) y0 y1))
 | 0 => fun _ _ r h => by simp [nats_Gcd.l0] at h
 | k + 1 => by
  have ih0 := nats_Gcd.mono_l k
  ·intro y0 y1
   unfold nats_Gcd.l0
   have m0 := @nats_QuoRem.mono
   have m1 := @nats_Trim.mono
   exact Qa6
theorem nats_Gcd.mono : ∀ a0 a1 k, LeO (nats_Gcd.f k a0 a1) (nats_Gcd.f (k + 1) a0 a1) := by
 intro a0 a1 k
 have ih0 := nats_Gcd.mono_l k
 unfold nats_Gcd.f
 have m0 := @nats_QuoRem.mono
 have m1 := @nats_Trim.mono
 exact Qa6
theorem nats_Gcd.calls (k : Nat) (A0 : Option Addr) (c0 : Nat) (l0 : List Int) (A1 : Option Addr) (c1 : Nat) (l1 : List Int) (r : List Int) (w : World) (hr0 : Kd.C (Kd.int .u32) w A0 l0.length l0) (hc0 : l0.length ≤ c0) (hr1 : Kd.C (Kd.int .u32) w A1 l1.length l1) (hc1 : l1.length ≤ c1) (h : nats_Gcd.f k l0 l1 = some r) :
  Calls Try.prog 91 #[.slice A0 l0.length c0, .slice A1 l1.length c1] w fun e w' => ∃ v0_ : Value, e = .returned (v0_) ∧ Kd.R (Kd.int .u32) 47 w' w.heap.size (fun _ => True) v0_ r ∧ Below w.heap.size w w' := by
 have HR0 := Yt.mk hr0
 have HC0 := Yt.mk hc0
 clear hr0 hc0
 have HR1 := Yt.mk hr1
 have HC1 := Yt.mk hc1
 clear hr1 hc1
 have HB := Yt.mk (Below.refl w.heap.size w)
 unfold nats_Gcd.f at h
 have H := h
 clear h
 replace H := Option.bind_eq_some_iff.mp H
 obtain ⟨t663, A30, H⟩ := H
 try dsimp only at H
 have A3 := Yt.mk A30
 clear A30
 replace H := Option.bind_eq_some_iff.mp H
 obtain ⟨t666, A40, H⟩ := H
 replace H : (nats_Gcd.l0 k t663 t666) = some r := H
 have A4 := Yt.mk A40
 clear A40
 have H' := Yt.mk H
 clear H
 go_enter Try.func91, Try.ntmps91
 go_wp2_with (first | ((with_reducible refine Zr (f := 90) rfl ?_); refine Yg (some 8) rfl rfl Try.func90 Qa8 rfl #[.slice A0 l0.length c0] rfl Qa2 ?_; (with_reducible refine (nats_Trim.calls k _ _ l0 t663 _ ?side1 ?side2 A3.out).mono ?_); (case side1 => exact Qe11 HR0.out); (case side2 => exact HC0.out); rintro e w5 ⟨v664, rfl, ho0, hb⟩; refine ⟨_, rfl, ?_⟩; have HO665 := Yt.mk (Kd.Yb ho0 (Zk (Qa0))); replace HB := Yt.mk (Zm (Qa0) hb); (try clear hb); (try clear ho0)) | ((with_reducible refine Zr (f := 90) rfl ?_); refine Yg (some 10) rfl rfl Try.func90 Qa8 rfl #[.slice A1 l1.length c1] rfl Qa2 ?_; (with_reducible refine (nats_Trim.calls k _ _ l1 t666 _ ?side1 ?side2 A4.out).mono ?_); (case side1 => exact Qe11 (Kd.Ys HR1.out HB.out)); (case side2 => exact HC1.out); rintro e w6 ⟨v667, rfl, ho0, hb⟩; refine ⟨_, rfl, ?_⟩; have HO668 := Yt.mk (Kd.Yb (Kd.Ya ho0 (Kd.R_lt (Qr1 HO665.out))) (Zk (Qa0))); replace HO665 := Yt.mk (Kd.Yf (Qr1 HO665.out) (Kd.Zw ho0) hb); replace HB := Yt.mk (Zm (Qa0) hb); (try clear hb); (try clear ho0)))
 go_loopg [0, 1] k (fun kq v0 v1 w' => ∃ (x0_1 : List Int) (x1_1 : List Int), Yt (nats_Gcd.l0 kq x0_1 x1_1 = some r) ∧ Yt (kq ≤ k) ∧ Yt (Kd.R (Kd.int .u32) 47 w' w.heap.size (fun k_ => some k_ ≠ (v1 : Value).ownBlock) v0 x0_1) ∧ Yt (Kd.R (Kd.int .u32) 47 w' w.heap.size (fun k_ => some k_ ≠ (v0 : Value).ownBlock) v1 x1_1) ∧ Yt (Below w.heap.size w w'))
 case atStart => exact ⟨(t663), (t666), H', ⟨Nat.le_refl _⟩, ⟨by (with_reducible repeat (first | apply Kd.Zf | apply Kd.Ze | apply Kd.Zj)); exact Kd.Zv HO665.out (fun _ hk => hk.2)⟩, ⟨by (with_reducible repeat (first | apply Kd.Zf | apply Kd.Ze | apply Kd.Zj)); exact Kd.Zv HO668.out (fun _ hk => hk.2)⟩, ⟨Qa0⟩⟩
 case round =>
  clear H'
  try clear c1; try clear p2
  obtain ⟨x0_1, x1_1, HA, HK1, HO_0, HO_1, HB⟩ := hrel
  cases gk with
  | zero => exact absurd HA.out (by simp [nats_Gcd.l0])
  | succ k1 =>
   have H := HA.out
   clear HA
   simp only [nats_Gcd.l0] at H
   by_cases c7 : (x1_1.length : Int) > 0
   rotate_left
   ·rw [if_neg c7] at H
    have c7b0 : decide (0 < (x1_1.length : Int)) = false := decide_eq_false c7
    have c7b1 : decide (0 < x1_1.length) = false := decide_eq_false (by omega)
    clear c7
    replace H := Option.bind_eq_some_iff.mp H
    obtain ⟨t675, A120, H⟩ := H
    replace H : (some t675) = some r := H
    have A12 := Yt.mk A120
    clear A120
    obtain rfl := Option.some.inj H
    obtain ⟨Ao13, co13, eo13⟩ := Kd.Zx HO_1.out
    subst eo13
    obtain ⟨Ao14, co14, eo14⟩ := Kd.Zx HO_0.out
    subst eo14
    go_wp2_with (first | ((with_reducible refine Zr (f := 90) rfl ?_); refine Yg (some 23) rfl rfl Try.func90 Qa8 rfl #[.slice Ao14 x0_1.length co14] rfl Qa2 ?_; (with_reducible refine (nats_Trim.calls k1 _ _ x0_1 t675 _ ?side1 ?side2 A12.out).mono ?_); (case side1 => exact Qe11 (Kd.Zs HO_0.out).2.2); (case side2 => exact (Kd.Zs HO_0.out).2.1); rintro e w15 ⟨v676, rfl, ho0, hb⟩; refine ⟨_, rfl, ?_⟩; have HO677 := Yt.mk (Kd.Yb (Kd.Ya (Kd.Ya ho0 (Kd.R_lt (Qr1 HO_0.out))) (Kd.R_lt (Qr1 HO_1.out))) (Zk (Qa0))); replace HO_0 := Yt.mk (Kd.Yf (Qr1 HO_0.out) (Kd.Zw ho0) hb); replace HO_1 := Yt.mk (Kd.Yf (Qr1 HO_1.out) (Kd.Zw ho0) hb); replace HB := Yt.mk (Zm (Qa0) hb); (try clear hb); (try clear ho0)))
    go_ret
    exact ⟨_, Qa4, by (with_reducible repeat (first | apply Kd.Zf | apply Kd.Ze | apply Kd.Zj)); exact Kd.Zv HO677.out (fun _ hk => trivial), Qa0⟩
   rw [if_pos c7] at H
   have c7b0 : decide (0 < (x1_1.length : Int)) = true := decide_eq_true c7
   have c7b1 : decide (0 < x1_1.length) = true := decide_eq_true (by omega)
   clear c7
   replace H := Option.bind_eq_some_iff.mp H
   obtain ⟨⟨t669, t670⟩, A80, H⟩ := H
   replace H : (nats_Gcd.l0 k1 x1_1 t670) = some r := H
   have A8 := Yt.mk A80
   clear A80
   have H' := Yt.mk H
   clear H
   obtain ⟨Ao9, co9, eo9⟩ := Kd.Zx HO_1.out
   subst eo9
   obtain ⟨Ao10, co10, eo10⟩ := Kd.Zx HO_0.out
   subst eo10
   go_wp2_with (first | ((with_reducible refine Zr (f := 83) rfl ?_); refine Yg (some 17) rfl rfl Try.func83 Qa8 rfl #[.slice Ao10 x0_1.length co10, .slice Ao9 x1_1.length co9] rfl Qa2 ?_; (with_reducible refine (nats_QuoRem.calls k1 _ _ x0_1 _ _ x1_1 t669 t670 _ ?side1 ?side2 ?side3 ?side4 A8.out).mono ?_); (case side1 => exact Qe11 (Kd.Zs HO_0.out).2.2); (case side2 => exact (Kd.Zs HO_0.out).2.1); (case side3 => exact Qe11 (Kd.Zs HO_1.out).2.2); (case side4 => exact (Kd.Zs HO_1.out).2.1); rintro e w11 ⟨v671, v673, rfl, ho0, ho1, hb⟩; refine ⟨_, rfl, ?_⟩; have HO672 := Yt.mk (Kd.Yb (Kd.Ya (Kd.Ya ho0 (Kd.R_lt (Qr1 HO_0.out))) (Kd.R_lt (Qr1 HO_1.out))) (Zk (Qa0))); have HO674 := Yt.mk (Kd.Yb (Kd.Ya (Kd.Ya ho1 (Kd.R_lt (Qr1 HO_0.out))) (Kd.R_lt (Qr1 HO_1.out))) (Zk (Qa0))); replace HO_0 := Yt.mk (Kd.Zv (Kd.Yl (Kd.Yl (Kd.R_old (Qr1 HO_0.out) hb) (Kd.Zw ho0)) (Kd.Zw ho1)) (fun _ h_ => h_.1)); replace HO_1 := Yt.mk (Kd.Zv (Kd.Yl (Kd.Yl (Kd.R_old (Qr1 HO_1.out) hb) (Kd.Zw ho0)) (Kd.Zw ho1)) (fun _ h_ => h_.1)); replace HB := Yt.mk (Zm (Qa0) hb); (try clear hb); (try clear ho0); (try clear ho1)))
   go_roundg k1
   case measure => have := HK1.out; omega
   case rel => exact ⟨(x1_1), (t670), H', ⟨by have := HK1.out; omega⟩, ⟨by (with_reducible repeat (first | apply Kd.Zf | apply Kd.Ze | apply Kd.Zj)); exact Kd.Zv HO_1.out (fun _ hk => hk.2)⟩, ⟨by (with_reducible repeat (first | apply Kd.Zf | apply Kd.Ze | apply Kd.Zj)); exact Kd.Zv HO674.out (fun _ hk => hk.2)⟩, ⟨Qa0⟩⟩
def ratio_Make.j0 : Nat → Bool → List Int → List Int → Option (Bool × List Int × List Int × Int)
 | 0, _, _, _ => none
 | k + 1, x0, x8, x9 => if (x8.length : Int) > 16 then (some (false, ([] : List Int), ([] : List Int), 4)) else (if (x9.length : Int) > 16 then (some (false, ([] : List Int), ([] : List Int), 4)) else (some (x0, x8, x9, 0)))
def ratio_Make.f (k : Nat) (a0 : Bool) (l1 : List Int) (l2 : List Int) : Option (Bool × List Int × List Int × Int) := (nats_Trim.f k l1).bind fun t991 => ((nats_Trim.f k l2).bind fun t994 => (if (t994.length : Int) = 0 then (some (false, ([] : List Int), ([] : List Int), 10)) else (if (t991.length : Int) = 0 then (some (false, ([] : List Int), (([1] : List Int)), 0)) else ((nats_Gcd.f k t991 t994).bind fun t1000 => ((ratio_one.f t1000).bind fun t1003 => (if t1003 = true then (ratio_Make.j0 k a0 t991 t994) else ((nats_QuoRem.f k t991 t1000).bind fun bt1004 => ((nats_QuoRem.f k t994 t1000).bind fun bt1010 => (ratio_Make.j0 k a0 bt1004.1 bt1010.1)))))))))
theorem ratio_Make.mono_l : ∀ k, (∀ y0 y1 y2, LeO (ratio_Make.j0 k y0 y1 y2) (ratio_Make.j0 (k + 1) y0 y1 y2))
 | 0 => fun _ _ _ r h => by simp [ratio_Make.j0] at h
 | k + 1 => by
  have ih0 := ratio_Make.mono_l k
  ·intro y0 y1 y2
   unfold ratio_Make.j0
   have m0 := @nats_Gcd.mono
   have m1 := @nats_QuoRem.mono
   have m2 := @nats_Trim.mono
   exact Qa6
theorem ratio_Make.mono : ∀ a0 a1 a2 k, LeO (ratio_Make.f k a0 a1 a2) (ratio_Make.f (k + 1) a0 a1 a2) := by
 intro a0 a1 a2 k
 have ih0 := ratio_Make.mono_l k
 unfold ratio_Make.f
 have m0 := @nats_Gcd.mono
 have m1 := @nats_QuoRem.mono
 have m2 := @nats_Trim.mono
 exact Qa6
theorem ratio_Make.calls (k : Nat) (a0 : Bool) (A1 : Option Addr) (c1 : Nat) (l1 : List Int) (A2 : Option Addr) (c2 : Nat) (l2 : List Int) (r1 : Bool) (r2 : List Int) (r3 : List Int) (r4 : Int) (w : World) (hr1 : Kd.C (Kd.int .u32) w A1 l1.length l1) (hc1 : l1.length ≤ c1) (hr2 : Kd.C (Kd.int .u32) w A2 l2.length l2) (hc2 : l2.length ≤ c2) (h : ratio_Make.f k a0 l1 l2 = some (r1, r2, r3, r4)) :
  Calls Try.prog 48 #[.bool a0, .slice A1 l1.length c1, .slice A2 l2.length c2] w fun e w' => ∃ v1_ v2_ : Value, e = .returned (.tuple #[.agg #[.bool r1, v1_, v2_], .int .i64 r4]) ∧ Kd.R (Kd.int .u32) 47 w' w.heap.size (fun k_ => some k_ ≠ (v2_ : Value).ownBlock) v1_ r2 ∧ Kd.R (Kd.int .u32) 47 w' w.heap.size (fun k_ => some k_ ≠ (v1_ : Value).ownBlock) v2_ r3 ∧ Below w.heap.size w w' := by
 have hu50 := Try.underlying50
 have HR1 := Yt.mk hr1
 have HC1 := Yt.mk hc1
 clear hr1 hc1
 have HR2 := Yt.mk hr2
 have HC2 := Yt.mk hc2
 clear hr2 hc2
 have HB := Yt.mk (Below.refl w.heap.size w)
 unfold ratio_Make.f at h
 have H := h
 clear h
 replace H := Option.bind_eq_some_iff.mp H
 obtain ⟨t991, A40, H⟩ := H
 try dsimp only at H
 have A4 := Yt.mk A40
 clear A40
 replace H := Option.bind_eq_some_iff.mp H
 obtain ⟨t994, A50, H⟩ := H
 try dsimp only at H
 have A5 := Yt.mk A50
 clear A50
 by_cases c6 : (t994.length : Int) = 0
 ·rw [if_pos c6] at H
  have c6b0 : ((t994.length : Int) == 0) = true := beq_iff_eq.mpr c6
  have c6b1 : ((t994.length : Int) != 0) = false := bne_eq_false_iff_eq.mpr c6
  clear c6
  simp only [Option.some.injEq, Prod.mk.injEq] at H
  obtain ⟨rfl, rfl, rfl, rfl⟩ := H
  go_enter Try.func48, Try.ntmps48
  go_wp2_with (first | ((with_reducible refine Yk (N := 6) rfl ?_); (try (refine gate_guard (by rfl) ?_; dsimp only)); refine Yo ?hg (N := 6) ?hd (cs := #[.bool false, .slice none 0 0, .slice none 0 0]) (t := 50) ?hr ?_; (case hd => rfl); (case hg => rfl); (case hr => exact Qa9); intro gb990 hg w7 hbox hb; have BK990 := Yt.mk (hbox); have GW990 := Yt.mk ((by rw [hg]; exact (Zk (Qa0)) : w.heap.size ≤ gb990)); have GE990 := Yt.mk ((by rw [hg]; exact (Zk (Qa0)) : w.heap.size ≤ gb990)); replace HB := Yt.mk (Zm (Qa0) hb); clear hb hbox hg) | ((with_reducible refine Zr (f := 90) rfl ?_); refine Yg (some 12) rfl rfl Try.func90 Qa8 rfl #[.slice A1 l1.length c1] rfl Qa2 ?_; (with_reducible refine (nats_Trim.calls k _ _ l1 t991 _ ?side1 ?side2 A4.out).mono ?_); (case side1 => exact Qe11 (Kd.Ys HR1.out HB.out)); (case side2 => exact HC1.out); rintro e w8 ⟨v992, rfl, ho0, hb⟩; refine ⟨_, rfl, ?_⟩; have HO993 := Yt.mk (Kd.Yb ho0 (Zk (Qa0))); replace BK990 := Yt.mk (Zq (g := gb990) (o := .cells #[.bool false, .slice none 0 0, .slice none 0 0] 50 (0, 0)) (Qr12 BK990.out) hb); replace HB := Yt.mk (Zm (Qa0) hb); (try clear hb); (try clear ho0)) | ((with_reducible refine Zr (f := 90) rfl ?_); refine Yg (some 14) rfl rfl Try.func90 Qa8 rfl #[.slice A2 l2.length c2] rfl Qa2 ?_; (with_reducible refine (nats_Trim.calls k _ _ l2 t994 _ ?side1 ?side2 A5.out).mono ?_); (case side1 => exact Qe11 (Kd.Ys HR2.out HB.out)); (case side2 => exact HC2.out); rintro e w9 ⟨v995, rfl, ho0, hb⟩; refine ⟨_, rfl, ?_⟩; have HO996 := Yt.mk (Kd.Yb (Kd.Ya ho0 (Kd.R_lt (Qr1 HO993.out))) (Zk (Qa0))); replace HO993 := Yt.mk (Kd.Yf (Qr1 HO993.out) (Kd.Zw ho0) hb); replace BK990 := Yt.mk (Zq (g := gb990) (o := .cells #[.bool false, .slice none 0 0, .slice none 0 0] 50 (0, 0)) (Qr12 BK990.out) hb); replace HB := Yt.mk (Zm (Qa0) hb); (try clear hb); (try clear ho0); obtain ⟨Ao10, co10, eo10⟩ := Kd.Zx HO996.out; subst eo10; have hcz11_0 : w9.cell? ⟨gb990, 0, none⟩ = some (.bool false) := (Zl BK990.out 0).trans rfl; have hcz11_1 : w9.cell? ⟨gb990, 1, none⟩ = some (.slice none 0 0) := (Zl BK990.out 1).trans rfl; have hcz11_2 : w9.cell? ⟨gb990, 2, none⟩ = some (.slice none 0 0) := (Zl BK990.out 2).trans rfl; have hfz11_0 := Zn BK990.out 0; have hfz11_1 := Zn BK990.out 1; have hfz11_2 := Zn BK990.out 2))
  refine bodyPost_ret (results_ct rfl _ _ gb990 50 #[.bool false, .slice none 0 0, .slice none 0 0] (0, 0) _ rfl (by (with_reducible repeat (first | refine Zg ?_ _ | refine Zi ?_ | refine Zh ?_ _)); refine Ym (cs := #[.bool false, .slice none 0 0, .slice none 0 0]) ?_ 2 _ rfl; (with_reducible repeat (first | refine Zg ?_ _ | refine Zi ?_ | refine Zh ?_ _)); refine Ym (cs := #[.bool false, .slice none 0 0, .slice none 0 0]) ?_ 1 _ rfl; (with_reducible repeat (first | refine Zg ?_ _ | refine Zi ?_ | refine Zh ?_ _)); refine Ym (cs := #[.bool false, .slice none 0 0, .slice none 0 0]) ?_ 0 _ rfl; (with_reducible repeat (first | refine Zg ?_ _ | refine Zi ?_ | refine Zh ?_ _)); exact BK990.out) Try.underlying50 rfl Qa8) rfl ?_
  exact ⟨_, _, Qa4, by first | exact Kd.R_nil _ _ _ _ _ | exact Kd.N_nil _ _ _ _ _ | exact Kd.V_nil _ _ _ _ _ | exact Kd.Q_nil _ _ _ _ _ | exact Kd.S_nil _ _ _ _ _, by first | exact Kd.R_nil _ _ _ _ _ | exact Kd.N_nil _ _ _ _ _ | exact Kd.V_nil _ _ _ _ _ | exact Kd.Q_nil _ _ _ _ _ | exact Kd.S_nil _ _ _ _ _, Qa0⟩
 rw [if_neg c6] at H
 have c6b0 : ((t994.length : Int) == 0) = false := beq_eq_false_iff_ne.mpr c6
 have c6b1 : ((t994.length : Int) != 0) = true := bne_iff_ne.mpr c6
 have c6b2 : ¬ (t994 = []) := fun h_ => c6 (by rw [h_]; rfl)
 by_cases c12 : (t991.length : Int) = 0
 ·rw [if_pos c12] at H
  have c12b0 : ((t991.length : Int) == 0) = true := beq_iff_eq.mpr c12
  have c12b1 : ((t991.length : Int) != 0) = false := bne_eq_false_iff_eq.mpr c12
  clear c12
  obtain ⟨y997, hy997⟩ : ∃ y_ : List Int, y_ = (([1] : List Int)) := ⟨_, rfl⟩
  replace H : (some (false, ([] : List Int), y997, 0)) = some (r1, r2, r3, r4) := Qh hy997 H
  have Ny997 := Yt.mk hy997
  clear hy997
  simp only [Option.some.injEq, Prod.mk.injEq] at H
  obtain ⟨rfl, rfl, rfl, rfl⟩ := H
  go_enter Try.func48, Try.ntmps48
  go_wp2_with (first | ((with_reducible refine Yk (N := 6) rfl ?_); (try (refine gate_guard (by rfl) ?_; dsimp only)); refine Yo ?hg (N := 6) ?hd (cs := #[.bool false, .slice none 0 0, .slice none 0 0]) (t := 50) ?hr ?_; (case hd => rfl); (case hg => rfl); (case hr => exact Qa9); intro gb990 hg w13 hbox hb; have BK990 := Yt.mk (hbox); have GW990 := Yt.mk ((by rw [hg]; exact (Zk (Qa0)) : w.heap.size ≤ gb990)); have GE990 := Yt.mk ((by rw [hg]; exact (Zk (Qa0)) : w.heap.size ≤ gb990)); replace HB := Yt.mk (Zm (Qa0) hb); clear hb hbox hg) | ((with_reducible refine Zr (f := 90) rfl ?_); refine Yg (some 12) rfl rfl Try.func90 Qa8 rfl #[.slice A1 l1.length c1] rfl Qa2 ?_; (with_reducible refine (nats_Trim.calls k _ _ l1 t991 _ ?side1 ?side2 A4.out).mono ?_); (case side1 => exact Qe11 (Kd.Ys HR1.out HB.out)); (case side2 => exact HC1.out); rintro e w14 ⟨v992, rfl, ho0, hb⟩; refine ⟨_, rfl, ?_⟩; have HO993 := Yt.mk (Kd.Yb ho0 (Zk (Qa0))); replace BK990 := Yt.mk (Zq (g := gb990) (o := .cells #[.bool false, .slice none 0 0, .slice none 0 0] 50 (0, 0)) (Qr12 BK990.out) hb); replace HB := Yt.mk (Zm (Qa0) hb); (try clear hb); (try clear ho0)) | ((with_reducible refine Zr (f := 90) rfl ?_); refine Yg (some 14) rfl rfl Try.func90 Qa8 rfl #[.slice A2 l2.length c2] rfl Qa2 ?_; (with_reducible refine (nats_Trim.calls k _ _ l2 t994 _ ?side1 ?side2 A5.out).mono ?_); (case side1 => exact Qe11 (Kd.Ys HR2.out HB.out)); (case side2 => exact HC2.out); rintro e w15 ⟨v995, rfl, ho0, hb⟩; refine ⟨_, rfl, ?_⟩; have HO996 := Yt.mk (Kd.Yb (Kd.Ya ho0 (Kd.R_lt (Qr1 HO993.out))) (Zk (Qa0))); replace HO993 := Yt.mk (Kd.Yf (Qr1 HO993.out) (Kd.Zw ho0) hb); replace BK990 := Yt.mk (Zq (g := gb990) (o := .cells #[.bool false, .slice none 0 0, .slice none 0 0] 50 (0, 0)) (Qr12 BK990.out) hb); replace HB := Yt.mk (Zm (Qa0) hb); (try clear hb); (try clear ho0); obtain ⟨Ao16, co16, eo16⟩ := Kd.Zx HO996.out; subst eo16; obtain ⟨Ao17, co17, eo17⟩ := Kd.Zx HO993.out; subst eo17) | ((with_reducible refine Yk (N := 22) rfl ?_); (try (refine gate_guard (by rfl) ?_; dsimp only)); refine Kd.R_lit (Kd.int .u32) _ 47 ?hg (N := 22) ?hd (xs := ([1] : List Int)) (inner := [.int .u32 1]) (ok := fun _ => True) (okp := fun _ => True) ?hr ?hp (fun _ hk => hk) trivial (Below.refl _ _) (Nat.le_refl _) (by simp) ?_; (case hd => rfl); (case hg => rfl); (case hr => exact Qa9); (case hp => exact (Reps.one (show Kd.M (Kd.int .u32) _ _ _ 1 [.int .u32 1] from rfl) (Reps.none _ _))); intro v998 w18 ho19 hb hg_ hnew_; clear hg_ hnew_; (first | rw [← Ny997.out] at ho19 | (simp only [Int.reduceToNat] at ho19; rw [← Ny997.out] at ho19)); have HO999 := Yt.mk (Kd.Yb (Kd.Ya (Kd.Ya ho19 (Kd.R_lt (Qr1 HO993.out))) (Kd.R_lt (Qr1 HO996.out))) (Zk (Qa0))); replace HO993 := Yt.mk (Kd.Yf (Qr1 HO993.out) (Kd.Zw ho19) hb); replace HO996 := Yt.mk (Kd.Yf (Qr1 HO996.out) (Kd.Zw ho19) hb); replace BK990 := Yt.mk (Zq (g := gb990) (o := .cells #[.bool false, .slice none 0 0, .slice none 0 0] 50 (0, 0)) (Qr12 BK990.out) hb); replace HB := Yt.mk (Zm (Qa0) hb); clear hb ho19; obtain ⟨Ao20, co20, eo20⟩ := Kd.Zx HO999.out; subst eo20; have hcz21_0 : w18.cell? ⟨gb990, 0, none⟩ = some (.bool false) := (Zl BK990.out 0).trans rfl; have hcz21_1 : w18.cell? ⟨gb990, 1, none⟩ = some (.slice none 0 0) := (Zl BK990.out 1).trans rfl; have hcz21_2 : w18.cell? ⟨gb990, 2, none⟩ = some (.slice none 0 0) := (Zl BK990.out 2).trans rfl; have hfz21_0 := Zn BK990.out 0; have hfz21_1 := Zn BK990.out 1; have hfz21_2 := Zn BK990.out 2))
  refine bodyPost_ret (results_ct rfl _ _ gb990 50 #[.bool false, .slice none 0 0, .slice Ao20 y997.length co20] (0, 0) _ rfl (by (with_reducible repeat (first | refine Zg ?_ _ | refine Zi ?_ | refine Zh ?_ _)); refine Ym (cs := #[.bool false, .slice none 0 0, .slice none 0 0]) ?_ 2 _ rfl; (with_reducible repeat (first | refine Zg ?_ _ | refine Zi ?_ | refine Zh ?_ _)); refine Ym (cs := #[.bool false, .slice none 0 0, .slice none 0 0]) ?_ 1 _ rfl; (with_reducible repeat (first | refine Zg ?_ _ | refine Zi ?_ | refine Zh ?_ _)); refine Ym (cs := #[.bool false, .slice none 0 0, .slice none 0 0]) ?_ 0 _ rfl; (with_reducible repeat (first | refine Zg ?_ _ | refine Zi ?_ | refine Zh ?_ _)); exact BK990.out) Try.underlying50 rfl Qa8) rfl ?_
  exact ⟨_, _, Qa4, by first | exact Kd.R_nil _ _ _ _ _ | exact Kd.N_nil _ _ _ _ _ | exact Kd.V_nil _ _ _ _ _ | exact Kd.Q_nil _ _ _ _ _ | exact Kd.S_nil _ _ _ _ _, by (with_reducible repeat (first | apply Kd.Zf | apply Kd.Ze | apply Kd.Zj)); exact Kd.Zv (Kd.Yh (p := ⟨gb990, 2, none⟩) (Kd.Yh (p := ⟨gb990, 1, none⟩) (Kd.Yh (p := ⟨gb990, 0, none⟩) (Kd.Yq HO999.out BK990.out (by decide)) (fun _ hk => hk.2) (.bool false)) (fun _ hk => hk.2) (.slice none 0 0)) (fun _ hk => hk.2) (.slice Ao20 y997.length co20)) (fun _ hk => (by simp [Value.ownBlock])), Qa0⟩
 rw [if_neg c12] at H
 have c12b0 : ((t991.length : Int) == 0) = false := beq_eq_false_iff_ne.mpr c12
 have c12b1 : ((t991.length : Int) != 0) = true := bne_iff_ne.mpr c12
 have c12b2 : ¬ (t991 = []) := fun h_ => c12 (by rw [h_]; rfl)
 replace H := Option.bind_eq_some_iff.mp H
 obtain ⟨t1000, A220, H⟩ := H
 try dsimp only at H
 have A22 := Yt.mk A220
 clear A220
 replace H := Option.bind_eq_some_iff.mp H
 obtain ⟨t1003, A230, H⟩ := H
 try dsimp only at H
 have A23 := Yt.mk A230
 clear A230
 have HC24 := Yt.mk H
 clear H
 go_enter Try.func48, Try.ntmps48
 go_upto_if 29 with (first | ((with_reducible refine Yk (N := 6) rfl ?_); (try (refine gate_guard (by rfl) ?_; dsimp only)); refine Yo ?hg (N := 6) ?hd (cs := #[.bool false, .slice none 0 0, .slice none 0 0]) (t := 50) ?hr ?_; (case hd => rfl); (case hg => rfl); (case hr => exact Qa9); intro gb990 hg w25 hbox hb; have BK990 := Yt.mk (hbox); have GW990 := Yt.mk ((by rw [hg]; exact (Zk (Qa0)) : w.heap.size ≤ gb990)); have GE990 := Yt.mk ((by rw [hg]; exact (Zk (Qa0)) : w.heap.size ≤ gb990)); replace HB := Yt.mk (Zm (Qa0) hb); clear hb hbox hg) | ((with_reducible refine Zr (f := 90) rfl ?_); refine Yg (some 12) rfl rfl Try.func90 Qa8 rfl #[.slice A1 l1.length c1] rfl Qa2 ?_; (with_reducible refine (nats_Trim.calls k _ _ l1 t991 _ ?side1 ?side2 A4.out).mono ?_); (case side1 => exact Qe11 (Kd.Ys HR1.out HB.out)); (case side2 => exact HC1.out); rintro e w26 ⟨v992, rfl, ho0, hb⟩; refine ⟨_, rfl, ?_⟩; have HO993 := Yt.mk (Kd.Yb ho0 (Zk (Qa0))); replace BK990 := Yt.mk (Zq (g := gb990) (o := .cells #[.bool false, .slice none 0 0, .slice none 0 0] 50 (0, 0)) (Qr12 BK990.out) hb); replace HB := Yt.mk (Zm (Qa0) hb); (try clear hb); (try clear ho0)) | ((with_reducible refine Zr (f := 90) rfl ?_); refine Yg (some 14) rfl rfl Try.func90 Qa8 rfl #[.slice A2 l2.length c2] rfl Qa2 ?_; (with_reducible refine (nats_Trim.calls k _ _ l2 t994 _ ?side1 ?side2 A5.out).mono ?_); (case side1 => exact Qe11 (Kd.Ys HR2.out HB.out)); (case side2 => exact HC2.out); rintro e w27 ⟨v995, rfl, ho0, hb⟩; refine ⟨_, rfl, ?_⟩; have HO996 := Yt.mk (Kd.Yb (Kd.Ya ho0 (Kd.R_lt (Qr1 HO993.out))) (Zk (Qa0))); replace HO993 := Yt.mk (Kd.Yf (Qr1 HO993.out) (Kd.Zw ho0) hb); replace BK990 := Yt.mk (Zq (g := gb990) (o := .cells #[.bool false, .slice none 0 0, .slice none 0 0] 50 (0, 0)) (Qr12 BK990.out) hb); replace HB := Yt.mk (Zm (Qa0) hb); (try clear hb); (try clear ho0); obtain ⟨Ao28, co28, eo28⟩ := Kd.Zx HO996.out; subst eo28; obtain ⟨Ao29, co29, eo29⟩ := Kd.Zx HO993.out; subst eo29) | ((with_reducible refine Zr (f := 91) rfl ?_); refine Yg (some 26) rfl rfl Try.func91 Qa8 rfl #[.slice Ao29 t991.length co29, .slice Ao28 t994.length co28] rfl Qa2 ?_; (with_reducible refine (nats_Gcd.calls k _ _ t991 _ _ t994 t1000 _ ?side1 ?side2 ?side3 ?side4 A22.out).mono ?_); (case side1 => exact Qe11 (Kd.Zs HO993.out).2.2); (case side2 => exact (Kd.Zs HO993.out).2.1); (case side3 => exact Qe11 (Kd.Zs HO996.out).2.2); (case side4 => exact (Kd.Zs HO996.out).2.1); rintro e w30 ⟨v1001, rfl, ho0, hb⟩; refine ⟨_, rfl, ?_⟩; have HO1002 := Yt.mk (Kd.Yb (Kd.Ya (Kd.Ya ho0 (Kd.R_lt (Qr1 HO993.out))) (Kd.R_lt (Qr1 HO996.out))) (Zk (Qa0))); replace HO993 := Yt.mk (Kd.Yf (Qr1 HO993.out) (Kd.Zw ho0) hb); replace HO996 := Yt.mk (Kd.Yf (Qr1 HO996.out) (Kd.Zw ho0) hb); replace BK990 := Yt.mk (Zq (g := gb990) (o := .cells #[.bool false, .slice none 0 0, .slice none 0 0] 50 (0, 0)) (Qr12 BK990.out) hb); replace HB := Yt.mk (Zm (Qa0) hb); (try clear hb); (try clear ho0); obtain ⟨Ao31, co31, eo31⟩ := Kd.Zx HO1002.out; subst eo31) | ((with_reducible refine Zr (f := 95) rfl ?_); refine Yg (some 28) rfl rfl Try.func95 Qa8 rfl #[.slice Ao31 t1000.length co31] rfl Qa2 ?_; (with_reducible refine (ratio_one.calls _ _ t1000 t1003 _ ?side1 ?side2 A23.out).mono ?_); (case side1 => exact Qe11 (Kd.Zs HO1002.out).2.2); (case side2 => exact (Kd.Zs HO1002.out).2.1); rintro e w' ⟨rfl, ⟨nd, rfl⟩⟩; refine ⟨_, rfl, ?_⟩))
 (try simp only [Act.put, List.setIfInBounds_toArray, List.set_cons_zero, List.set_cons_succ])
 go_cut [8, 9] (fun v8 v9 wc => ∃ (kq : Nat) (x8_23 : List Int) (x9_23 : List Int), Yt (ratio_Make.j0 kq a0 x8_23 x9_23 = some (r1, r2, r3, r4)) ∧ Yt (kq ≤ k) ∧ Yt (Kd.R (Kd.int .u32) 47 wc w.heap.size (fun k_ => some k_ ≠ (v9 : Value).ownBlock) v8 x8_23) ∧ Yt (Kd.R (Kd.int .u32) 47 wc w.heap.size (fun k_ => some k_ ≠ (v8 : Value).ownBlock) v9 x9_23) ∧ Yt (wc.heap[gb990]? = some (.cells #[.bool false, (.slice none 0 0), (.slice none 0 0)] 50 (0, 0))) ∧ Yt (Below w.heap.size w wc))
 case first =>
  have H := HC24.out
  clear HC24
  by_cases c32 : t1003 = true
  ·subst c32
   rw [if_pos rfl] at H
   have H' := Yt.mk H
   clear H
   go_wp2
   go_meet
   case rel => exact ⟨_, (t991), (t994), H', ⟨by first | omega | exact Nat.le_refl _⟩, ⟨by (with_reducible repeat (first | apply Kd.Zf | apply Kd.Ze | apply Kd.Zj)); exact Kd.Zv HO993.out (fun _ hk => hk.1.2)⟩, ⟨by (with_reducible repeat (first | apply Kd.Zf | apply Kd.Ze | apply Kd.Zj)); exact Kd.Zv HO996.out (fun _ hk => hk.1.2)⟩, ⟨Qr12 BK990.out⟩, ⟨Qa0⟩⟩
  replace c32 := Bool.eq_false_iff.mpr c32
  subst c32
  rw [if_neg (show ¬ (false = true) by decide)] at H
  replace H := Option.bind_eq_some_iff.mp H
  obtain ⟨⟨t1004, t1005⟩, A330, H⟩ := H
  try dsimp only at H
  have A33 := Yt.mk A330
  clear A330
  replace H := Option.bind_eq_some_iff.mp H
  obtain ⟨⟨t1010, t1011⟩, A340, H⟩ := H
  replace H : (ratio_Make.j0 k a0 t1004 t1010) = some (r1, r2, r3, r4) := H
  have A34 := Yt.mk A340
  clear A340
  have H' := Yt.mk H
  clear H
  go_wp2_with (first | ((with_reducible refine Zr (f := 83) rfl ?_); refine Yg (some 33) rfl rfl Try.func83 Qa8 rfl #[.slice Ao29 t991.length co29, .slice Ao31 t1000.length co31] rfl Qa2 ?_; (with_reducible refine (nats_QuoRem.calls k _ _ t991 _ _ t1000 t1004 t1005 _ ?side1 ?side2 ?side3 ?side4 A33.out).mono ?_); (case side1 => exact Qe11 (Kd.Zs HO993.out).2.2); (case side2 => exact (Kd.Zs HO993.out).2.1); (case side3 => exact Qe11 (Kd.Zs HO1002.out).2.2); (case side4 => exact (Kd.Zs HO1002.out).2.1); rintro e w35 ⟨v1006, v1008, rfl, ho0, ho1, hb⟩; refine ⟨_, rfl, ?_⟩; have HO1007 := Yt.mk (Kd.Yb (Kd.Ya (Kd.Ya (Kd.Ya ho0 (Kd.R_lt (Qr1 HO993.out))) (Kd.R_lt (Qr1 HO996.out))) (Kd.R_lt (Qr1 HO1002.out))) (Zk (Qa0))); have HO1009 := Yt.mk (Kd.Yb (Kd.Ya (Kd.Ya (Kd.Ya ho1 (Kd.R_lt (Qr1 HO993.out))) (Kd.R_lt (Qr1 HO996.out))) (Kd.R_lt (Qr1 HO1002.out))) (Zk (Qa0))); replace HO993 := Yt.mk (Kd.Zv (Kd.Yl (Kd.Yl (Kd.R_old (Qr1 HO993.out) hb) (Kd.Zw ho0)) (Kd.Zw ho1)) (fun _ h_ => h_.1)); replace HO996 := Yt.mk (Kd.Zv (Kd.Yl (Kd.Yl (Kd.R_old (Qr1 HO996.out) hb) (Kd.Zw ho0)) (Kd.Zw ho1)) (fun _ h_ => h_.1)); replace HO1002 := Yt.mk (Kd.Zv (Kd.Yl (Kd.Yl (Kd.R_old (Qr1 HO1002.out) hb) (Kd.Zw ho0)) (Kd.Zw ho1)) (fun _ h_ => h_.1)); replace BK990 := Yt.mk (Zq (g := gb990) (o := .cells #[.bool false, .slice none 0 0, .slice none 0 0] 50 (0, 0)) (Qr12 BK990.out) hb); replace HB := Yt.mk (Zm (Qa0) hb); (try clear hb); (try clear ho0); (try clear ho1)) | ((with_reducible refine Zr (f := 83) rfl ?_); refine Yg (some 39) rfl rfl Try.func83 Qa8 rfl #[.slice Ao28 t994.length co28, .slice Ao31 t1000.length co31] rfl Qa2 ?_; (with_reducible refine (nats_QuoRem.calls k _ _ t994 _ _ t1000 t1010 t1011 _ ?side1 ?side2 ?side3 ?side4 A34.out).mono ?_); (case side1 => exact Qe11 (Kd.Zs HO996.out).2.2); (case side2 => exact (Kd.Zs HO996.out).2.1); (case side3 => exact Qe11 (Kd.Zs HO1002.out).2.2); (case side4 => exact (Kd.Zs HO1002.out).2.1); rintro e w36 ⟨v1012, v1014, rfl, ho0, ho1, hb⟩; refine ⟨_, rfl, ?_⟩; have HO1013 := Yt.mk (Kd.Yb (Kd.Ya (Kd.Ya (Kd.Ya (Kd.Ya (Kd.Ya ho0 (Kd.R_lt (Qr1 HO993.out))) (Kd.R_lt (Qr1 HO996.out))) (Kd.R_lt (Qr1 HO1002.out))) (Kd.R_lt (Qr1 HO1007.out))) (Kd.R_lt (Qr1 HO1009.out))) (Zk (Qa0))); have HO1015 := Yt.mk (Kd.Yb (Kd.Ya (Kd.Ya (Kd.Ya (Kd.Ya (Kd.Ya ho1 (Kd.R_lt (Qr1 HO993.out))) (Kd.R_lt (Qr1 HO996.out))) (Kd.R_lt (Qr1 HO1002.out))) (Kd.R_lt (Qr1 HO1007.out))) (Kd.R_lt (Qr1 HO1009.out))) (Zk (Qa0))); replace HO993 := Yt.mk (Kd.Zv (Kd.Yl (Kd.Yl (Kd.R_old (Qr1 HO993.out) hb) (Kd.Zw ho0)) (Kd.Zw ho1)) (fun _ h_ => h_.1)); replace HO996 := Yt.mk (Kd.Zv (Kd.Yl (Kd.Yl (Kd.R_old (Qr1 HO996.out) hb) (Kd.Zw ho0)) (Kd.Zw ho1)) (fun _ h_ => h_.1)); replace HO1002 := Yt.mk (Kd.Zv (Kd.Yl (Kd.Yl (Kd.R_old (Qr1 HO1002.out) hb) (Kd.Zw ho0)) (Kd.Zw ho1)) (fun _ h_ => h_.1)); replace HO1007 := Yt.mk (Kd.Zv (Kd.Yl (Kd.Yl (Kd.R_old (Qr1 HO1007.out) hb) (Kd.Zw ho0)) (Kd.Zw ho1)) (fun _ h_ => h_.1)); replace HO1009 := Yt.mk (Kd.Zv (Kd.Yl (Kd.Yl (Kd.R_old (Qr1 HO1009.out) hb) (Kd.Zw ho0)) (Kd.Zw ho1)) (fun _ h_ => h_.1)); replace BK990 := Yt.mk (Zq (g := gb990) (o := .cells #[.bool false, .slice none 0 0, .slice none 0 0] 50 (0, 0)) (Qr12 BK990.out) hb); replace HB := Yt.mk (Zm (Qa0) hb); (try clear hb); (try clear ho0); (try clear ho1)))
  go_meet
  case rel => exact ⟨_, (t1004), (t1010), H', ⟨by first | omega | exact Nat.le_refl _⟩, ⟨by (with_reducible repeat (first | apply Kd.Zf | apply Kd.Ze | apply Kd.Zj)); exact Kd.Zv HO1007.out (fun _ hk => hk.1.2)⟩, ⟨by (with_reducible repeat (first | apply Kd.Zf | apply Kd.Ze | apply Kd.Zj)); exact Kd.Zv HO1013.out (fun _ hk => hk.1.2)⟩, ⟨Qr12 BK990.out⟩, ⟨Qa0⟩⟩
 case rest =>
  clear HC24
  try clear c1; try clear c2; try clear p2; try clear c3; try clear c4; try clear c6; try clear c6b0; try clear c6b1; try clear c6b2; try clear c8; try clear c9; try clear c12; try clear c12b0; try clear c12b1; try clear c12b2; try clear c32; try clear hcz11_0; try clear hcz11_1; try clear hcz11_2; try clear hcz21_0; try clear hcz21_1; try clear hcz21_2; try clear hfz11_0; try clear hfz11_1; try clear hfz11_2; try clear hfz21_0; try clear hfz21_1; try clear hfz21_2
  obtain ⟨kq, x8_23, x9_23, HA, HJ23, HO_8, HO_9, BK990, HB⟩ := hcut
  cases kq with
  | zero => exact absurd HA.out (by simp [ratio_Make.j0])
  | succ kj23 =>
   have H := HA.out
   clear HA
   simp only [ratio_Make.j0] at H
   by_cases c37 : (x8_23.length : Int) > 16
   ·rw [if_pos c37] at H
    have c37b0 : decide (16 < (x8_23.length : Int)) = true := decide_eq_true c37
    have c37b1 : decide (16 < x8_23.length) = true := decide_eq_true (by omega)
    clear c37
    simp only [Option.some.injEq, Prod.mk.injEq] at H
    obtain ⟨rfl, rfl, rfl, rfl⟩ := H
    obtain ⟨Ao38, co38, eo38⟩ := Kd.Zx HO_8.out
    subst eo38
    have hcz39_0 : wc.cell? ⟨gb990, 0, none⟩ = some (.bool false) := (Zl BK990.out 0).trans rfl
    have hcz39_1 : wc.cell? ⟨gb990, 1, none⟩ = some (.slice none 0 0) := (Zl BK990.out 1).trans rfl
    have hcz39_2 : wc.cell? ⟨gb990, 2, none⟩ = some (.slice none 0 0) := (Zl BK990.out 2).trans rfl
    have hfz39_0 := Zn BK990.out 0
    have hfz39_1 := Zn BK990.out 1
    have hfz39_2 := Zn BK990.out 2
    go_wp2
    refine bodyPost_ret (results_ct rfl _ _ gb990 50 #[.bool false, .slice none 0 0, .slice none 0 0] (0, 0) _ rfl (by (with_reducible repeat (first | refine Zg ?_ _ | refine Zi ?_ | refine Zh ?_ _)); refine Ym (cs := #[.bool false, .slice none 0 0, .slice none 0 0]) ?_ 2 _ rfl; (with_reducible repeat (first | refine Zg ?_ _ | refine Zi ?_ | refine Zh ?_ _)); refine Ym (cs := #[.bool false, .slice none 0 0, .slice none 0 0]) ?_ 1 _ rfl; (with_reducible repeat (first | refine Zg ?_ _ | refine Zi ?_ | refine Zh ?_ _)); refine Ym (cs := #[.bool false, .slice none 0 0, .slice none 0 0]) ?_ 0 _ rfl; (with_reducible repeat (first | refine Zg ?_ _ | refine Zi ?_ | refine Zh ?_ _)); exact BK990.out) Try.underlying50 rfl Qa8) rfl ?_
    exact ⟨_, _, Qa4, by first | exact Kd.R_nil _ _ _ _ _ | exact Kd.N_nil _ _ _ _ _ | exact Kd.V_nil _ _ _ _ _ | exact Kd.Q_nil _ _ _ _ _ | exact Kd.S_nil _ _ _ _ _, by first | exact Kd.R_nil _ _ _ _ _ | exact Kd.N_nil _ _ _ _ _ | exact Kd.V_nil _ _ _ _ _ | exact Kd.Q_nil _ _ _ _ _ | exact Kd.S_nil _ _ _ _ _, Qa0⟩
   rw [if_neg c37] at H
   have c37b0 : decide (16 < (x8_23.length : Int)) = false := decide_eq_false c37
   have c37b1 : decide (16 < x8_23.length) = false := decide_eq_false (by omega)
   clear c37
   by_cases c40 : (x9_23.length : Int) > 16
   ·rw [if_pos c40] at H
    have c40b0 : decide (16 < (x9_23.length : Int)) = true := decide_eq_true c40
    have c40b1 : decide (16 < x9_23.length) = true := decide_eq_true (by omega)
    clear c40
    simp only [Option.some.injEq, Prod.mk.injEq] at H
    obtain ⟨rfl, rfl, rfl, rfl⟩ := H
    obtain ⟨Ao41, co41, eo41⟩ := Kd.Zx HO_8.out
    subst eo41
    obtain ⟨Ao42, co42, eo42⟩ := Kd.Zx HO_9.out
    subst eo42
    have hcz43_0 : wc.cell? ⟨gb990, 0, none⟩ = some (.bool false) := (Zl BK990.out 0).trans rfl
    have hcz43_1 : wc.cell? ⟨gb990, 1, none⟩ = some (.slice none 0 0) := (Zl BK990.out 1).trans rfl
    have hcz43_2 : wc.cell? ⟨gb990, 2, none⟩ = some (.slice none 0 0) := (Zl BK990.out 2).trans rfl
    have hfz43_0 := Zn BK990.out 0
    have hfz43_1 := Zn BK990.out 1
    have hfz43_2 := Zn BK990.out 2
    go_wp2
    refine bodyPost_ret (results_ct rfl _ _ gb990 50 #[.bool false, .slice none 0 0, .slice none 0 0] (0, 0) _ rfl (by (with_reducible repeat (first | refine Zg ?_ _ | refine Zi ?_ | refine Zh ?_ _)); refine Ym (cs := #[.bool false, .slice none 0 0, .slice none 0 0]) ?_ 2 _ rfl; (with_reducible repeat (first | refine Zg ?_ _ | refine Zi ?_ | refine Zh ?_ _)); refine Ym (cs := #[.bool false, .slice none 0 0, .slice none 0 0]) ?_ 1 _ rfl; (with_reducible repeat (first | refine Zg ?_ _ | refine Zi ?_ | refine Zh ?_ _)); refine Ym (cs := #[.bool false, .slice none 0 0, .slice none 0 0]) ?_ 0 _ rfl; (with_reducible repeat (first | refine Zg ?_ _ | refine Zi ?_ | refine Zh ?_ _)); exact BK990.out) Try.underlying50 rfl Qa8) rfl ?_
    exact ⟨_, _, Qa4, by first | exact Kd.R_nil _ _ _ _ _ | exact Kd.N_nil _ _ _ _ _ | exact Kd.V_nil _ _ _ _ _ | exact Kd.Q_nil _ _ _ _ _ | exact Kd.S_nil _ _ _ _ _, by first | exact Kd.R_nil _ _ _ _ _ | exact Kd.N_nil _ _ _ _ _ | exact Kd.V_nil _ _ _ _ _ | exact Kd.Q_nil _ _ _ _ _ | exact Kd.S_nil _ _ _ _ _, Qa0⟩
   rw [if_neg c40] at H
   have c40b0 : decide (16 < (x9_23.length : Int)) = false := decide_eq_false c40
   have c40b1 : decide (16 < x9_23.length) = false := decide_eq_false (by omega)
   clear c40
   simp only [Option.some.injEq, Prod.mk.injEq] at H
   obtain ⟨rfl, rfl, rfl, rfl⟩ := H
   obtain ⟨Ao44, co44, eo44⟩ := Kd.Zx HO_8.out
   subst eo44
   obtain ⟨Ao45, co45, eo45⟩ := Kd.Zx HO_9.out
   subst eo45
   have hcz46_0 : wc.cell? ⟨gb990, 0, none⟩ = some (.bool false) := (Zl BK990.out 0).trans rfl
   have hcz46_1 : wc.cell? ⟨gb990, 1, none⟩ = some (.slice none 0 0) := (Zl BK990.out 1).trans rfl
   have hcz46_2 : wc.cell? ⟨gb990, 2, none⟩ = some (.slice none 0 0) := (Zl BK990.out 2).trans rfl
   have hfz46_0 := Zn BK990.out 0
   have hfz46_1 := Zn BK990.out 1
   have hfz46_2 := Zn BK990.out 2
   go_wp2
   refine bodyPost_ret (results_ct rfl _ _ gb990 50 #[.bool a0, .slice Ao44 x8_23.length co44, .slice Ao45 x9_23.length co45] (0, 0) _ rfl (by (with_reducible repeat (first | refine Zg ?_ _ | refine Zi ?_ | refine Zh ?_ _)); refine Ym (cs := #[.bool a0, .slice Ao44 x8_23.length co44, .slice none 0 0]) ?_ 2 _ rfl; (with_reducible repeat (first | refine Zg ?_ _ | refine Zi ?_ | refine Zh ?_ _)); refine Ym (cs := #[.bool a0, .slice none 0 0, .slice none 0 0]) ?_ 1 _ rfl; (with_reducible repeat (first | refine Zg ?_ _ | refine Zi ?_ | refine Zh ?_ _)); refine Ym (cs := #[.bool false, .slice none 0 0, .slice none 0 0]) ?_ 0 _ rfl; (with_reducible repeat (first | refine Zg ?_ _ | refine Zi ?_ | refine Zh ?_ _)); exact BK990.out) Try.underlying50 rfl Qa8) rfl ?_
   exact ⟨_, _, Qa4, by (with_reducible repeat (first | apply Kd.Zf | apply Kd.Ze | apply Kd.Zj)); exact Kd.Zv (Kd.Yh (p := ⟨gb990, 2, none⟩) (Kd.Yh (p := ⟨gb990, 1, none⟩) (Kd.Yh (p := ⟨gb990, 0, none⟩) (Kd.Yq HO_8.out BK990.out (by decide)) (fun _ hk => hk.2) (.bool a0)) (fun _ hk => hk.2) (.slice Ao44 x8_23.length co44)) (fun _ hk => hk.2) (.slice Ao45 x9_23.length co45)) (fun _ hk => hk.1), by (with_reducible repeat (first | apply Kd.Zf | apply Kd.Ze | apply Kd.Zj)); exact Kd.Zv (Kd.Yh (p := ⟨gb990, 2, none⟩) (Kd.Yh (p := ⟨gb990, 1, none⟩) (Kd.Yh (p := ⟨gb990, 0, none⟩) (Kd.Yq HO_9.out BK990.out (by decide)) (fun _ hk => hk.2) (.bool a0)) (fun _ hk => hk.2) (.slice Ao44 x8_23.length co44)) (fun _ hk => hk.2) (.slice Ao45 x9_23.length co45)) (fun _ hk => hk.1), Qa0⟩
def ratio_Form.j0 : Nat → Bool → Bool → List Int → List Int → Option (Bool)
 | 0, _, _, _, _ => none
 | k + 1, x28, x1018000, x1018001, x1018002 => if x28 = true then (some false) else ((nats_Gcd.f k x1018001 x1018002).bind fun t1020 => ((ratio_one.f t1020).bind fun t1023 => (some t1023)))
def ratio_Form.f (k : Nat) (a0_0 : Bool) (l0_1 : List Int) (l0_2 : List Int) : Option (Bool) := (ratio_natural.f l0_1).bind fun t1018 => (if t1018 = true then ((ratio_natural.f l0_2).bind fun t1019 => (if t1019 = true then (if (l0_2.length : Int) = 0 then (ratio_Form.j0 k true a0_0 l0_1 l0_2) else (if a0_0 = true then (ratio_Form.j0 k ((l0_1.length : Int) == 0) a0_0 l0_1 l0_2) else (ratio_Form.j0 k false a0_0 l0_1 l0_2))) else (ratio_Form.j0 k true a0_0 l0_1 l0_2))) else (ratio_Form.j0 k true a0_0 l0_1 l0_2))
theorem ratio_Form.mono_l : ∀ k, (∀ y0 y1 y2 y3, LeO (ratio_Form.j0 k y0 y1 y2 y3) (ratio_Form.j0 (k + 1) y0 y1 y2 y3))
 | 0 => fun _ _ _ _ r h => by simp [ratio_Form.j0] at h
 | k + 1 => by
  have ih0 := ratio_Form.mono_l k
  ·intro y0 y1 y2 y3
   unfold ratio_Form.j0
   have m0 := @nats_Gcd.mono
   exact Qa6
theorem ratio_Form.mono : ∀ a0 a1 a2 k, LeO (ratio_Form.f k a0 a1 a2) (ratio_Form.f (k + 1) a0 a1 a2) := by
 intro a0 a1 a2 k
 have ih0 := ratio_Form.mono_l k
 unfold ratio_Form.f
 have m0 := @nats_Gcd.mono
 exact Qa6
theorem ratio_Form.calls (k : Nat) (a0_0 : Bool) (A0_1 : Option Addr) (c0_1 : Nat) (l0_1 : List Int) (A0_2 : Option Addr) (c0_2 : Nat) (l0_2 : List Int) (r : Bool) (w : World) (hr0_1 : Kd.C (Kd.int .u32) w A0_1 l0_1.length l0_1) (hc0_1 : l0_1.length ≤ c0_1) (hr0_2 : Kd.C (Kd.int .u32) w A0_2 l0_2.length l0_2) (hc0_2 : l0_2.length ≤ c0_2) (h : ratio_Form.f k a0_0 l0_1 l0_2 = some r) :
  Calls Try.prog 50 #[.agg #[.bool a0_0, .slice A0_1 l0_1.length c0_1, .slice A0_2 l0_2.length c0_2]] w fun e w' => e = .returned (.bool r) ∧ Below w.heap.size w w' := by
 have hu50 := Try.underlying50
 have HR0_1 := Yt.mk hr0_1
 have HC0_1 := Yt.mk hc0_1
 clear hr0_1 hc0_1
 have HR0_2 := Yt.mk hr0_2
 have HC0_2 := Yt.mk hc0_2
 clear hr0_2 hc0_2
 have HB := Yt.mk (Below.refl w.heap.size w)
 unfold ratio_Form.f at h
 have H := h
 clear h
 have HC2 := Yt.mk H
 clear H
 go_enter Try.func50, Try.ntmps50
 go_upto_region 1 with (first | ((with_reducible refine Yk (N := 1) rfl ?_); (try (refine gate_guard (by rfl) ?_; dsimp only)); refine Yo ?hg (N := 1) ?hd (cs := #[.bool a0_0, .slice A0_1 l0_1.length c0_1, .slice A0_2 l0_2.length c0_2]) (t := 50) ?hr ?_; (case hd => rfl); (case hg => rfl); (case hr => exact Qa9); intro gb1017 hg w3 hbox hb; have BK1017 := Yt.mk (hbox); have GW1017 := Yt.mk ((by rw [hg]; exact (Zk (Qa0)) : w.heap.size ≤ gb1017)); have GE1017 := Yt.mk ((by rw [hg]; exact (Zk (Qa0)) : w.heap.size ≤ gb1017)); replace HB := Yt.mk (Zm (Qa0) hb); clear hb hbox hg))
 (try simp only [Act.put, List.setIfInBounds_toArray, List.set_cons_zero, List.set_cons_succ])
 go_cut [28] (fun v28 wc => ∃ (kq : Nat) (x28_1 : Bool), v28 = .bool x28_1 ∧ Yt (ratio_Form.j0 kq x28_1 a0_0 l0_1 l0_2 = some r) ∧ Yt (kq ≤ k) ∧ Yt (wc.heap[gb1017]? = some (.cells #[.bool a0_0, (.slice A0_1 l0_1.length c0_1), (.slice A0_2 l0_2.length c0_2)] 50 (0, 0))) ∧ Yt (Below w.heap.size w wc))
 case first =>
  have H := HC2.out
  clear HC2
  replace H := Option.bind_eq_some_iff.mp H
  obtain ⟨t1018, A40, H⟩ := H
  try dsimp only at H
  have A4 := Yt.mk A40
  clear A40
  by_cases c5 : t1018 = true
  rotate_left
  ·replace c5 := Bool.eq_false_iff.mpr c5
   subst c5
   rw [if_neg (show ¬ (false = true) by decide)] at H
   have H' := Yt.mk H
   clear H
   have hcz14_0 : w3.cell? ⟨gb1017, 0, none⟩ = some (.bool a0_0) := (Zl BK1017.out 0).trans rfl
   have hcz14_1 : w3.cell? ⟨gb1017, 1, none⟩ = some (.slice A0_1 l0_1.length c0_1) := (Zl BK1017.out 1).trans rfl
   have hcz14_2 : w3.cell? ⟨gb1017, 2, none⟩ = some (.slice A0_2 l0_2.length c0_2) := (Zl BK1017.out 2).trans rfl
   have hfz14_0 := Zn BK1017.out 0
   have hfz14_1 := Zn BK1017.out 1
   have hfz14_2 := Zn BK1017.out 2
   go_wp2_with (first | ((with_reducible refine Zr (f := 96) rfl ?_); refine Yg (some 5) rfl rfl Try.func96 Qa8 rfl #[.slice A0_1 l0_1.length c0_1] rfl Qa2 ?_; (with_reducible refine (ratio_natural.calls _ _ l0_1 false _ ?side1 ?side2 A4.out).mono ?_); (case side1 => exact Qe11 (Kd.Ys HR0_1.out HB.out)); (case side2 => exact HC0_1.out); rintro e w' ⟨rfl, ⟨nd, rfl⟩⟩; refine ⟨_, rfl, ?_⟩))
   go_meet
   case rel => exact ⟨_, (true), Qa5, H', ⟨by first | omega | exact Nat.le_refl _⟩, ⟨Qr12 BK1017.out⟩, ⟨Qa0⟩⟩
  subst c5
  rw [if_pos rfl] at H
  replace H := Option.bind_eq_some_iff.mp H
  obtain ⟨t1019, A60, H⟩ := H
  try dsimp only at H
  have A6 := Yt.mk A60
  clear A60
  by_cases c7 : t1019 = true
  rotate_left
  ·replace c7 := Bool.eq_false_iff.mpr c7
   subst c7
   rw [if_neg (show ¬ (false = true) by decide)] at H
   have H' := Yt.mk H
   clear H
   have hcz13_0 : w3.cell? ⟨gb1017, 0, none⟩ = some (.bool a0_0) := (Zl BK1017.out 0).trans rfl
   have hcz13_1 : w3.cell? ⟨gb1017, 1, none⟩ = some (.slice A0_1 l0_1.length c0_1) := (Zl BK1017.out 1).trans rfl
   have hcz13_2 : w3.cell? ⟨gb1017, 2, none⟩ = some (.slice A0_2 l0_2.length c0_2) := (Zl BK1017.out 2).trans rfl
   have hfz13_0 := Zn BK1017.out 0
   have hfz13_1 := Zn BK1017.out 1
   have hfz13_2 := Zn BK1017.out 2
   go_wp2_with (first | ((with_reducible refine Zr (f := 96) rfl ?_); refine Yg (some 5) rfl rfl Try.func96 Qa8 rfl #[.slice A0_1 l0_1.length c0_1] rfl Qa2 ?_; (with_reducible refine (ratio_natural.calls _ _ l0_1 true _ ?side1 ?side2 A4.out).mono ?_); (case side1 => exact Qe11 (Kd.Ys HR0_1.out HB.out)); (case side2 => exact HC0_1.out); rintro e w' ⟨rfl, ⟨nd, rfl⟩⟩; refine ⟨_, rfl, ?_⟩) | (go_at_call 96; (with_reducible refine (ratio_natural.calls _ _ l0_2 false _ ?side1 ?side2 A6.out).mono ?_); (case side1 => repeat (first | exact (Kd.Ys HR0_2.out (Qa0)) | (with_reducible refine Kd.Zu ?_ _) | (with_reducible refine Kd.Zt ?_ _) | (with_reducible refine Kd.Yc ?_))); (case side2 => exact HC0_2.out); rintro e w' ⟨rfl, ⟨nd, rfl⟩⟩))
   go_meet
   case rel => exact ⟨_, (true), Qa5, H', ⟨by first | omega | exact Nat.le_refl _⟩, ⟨Qr12 BK1017.out⟩, ⟨Qa0⟩⟩
  subst c7
  rw [if_pos rfl] at H
  by_cases c8 : (l0_2.length : Int) = 0
  ·rw [if_pos c8] at H
   have c8b0 : ((l0_2.length : Int) == 0) = true := beq_iff_eq.mpr c8
   have c8b1 : ((l0_2.length : Int) != 0) = false := bne_eq_false_iff_eq.mpr c8
   clear c8
   (first | rw [c8b0] | rw [c8b1] | (simp only [Yi, Yj]; rw [c8b0]) | skip)
   have H' := Yt.mk H
   clear H
   have hcz9_0 : w3.cell? ⟨gb1017, 0, none⟩ = some (.bool a0_0) := (Zl BK1017.out 0).trans rfl
   have hcz9_1 : w3.cell? ⟨gb1017, 1, none⟩ = some (.slice A0_1 l0_1.length c0_1) := (Zl BK1017.out 1).trans rfl
   have hcz9_2 : w3.cell? ⟨gb1017, 2, none⟩ = some (.slice A0_2 l0_2.length c0_2) := (Zl BK1017.out 2).trans rfl
   have hfz9_0 := Zn BK1017.out 0
   have hfz9_1 := Zn BK1017.out 1
   have hfz9_2 := Zn BK1017.out 2
   go_wp2_with (first | ((with_reducible refine Zr (f := 96) rfl ?_); refine Yg (some 5) rfl rfl Try.func96 Qa8 rfl #[.slice A0_1 l0_1.length c0_1] rfl Qa2 ?_; (with_reducible refine (ratio_natural.calls _ _ l0_1 true _ ?side1 ?side2 A4.out).mono ?_); (case side1 => exact Qe11 (Kd.Ys HR0_1.out HB.out)); (case side2 => exact HC0_1.out); rintro e w' ⟨rfl, ⟨nd, rfl⟩⟩; refine ⟨_, rfl, ?_⟩) | (go_at_call 96; (with_reducible refine (ratio_natural.calls _ _ l0_2 true _ ?side1 ?side2 A6.out).mono ?_); (case side1 => repeat (first | exact (Kd.Ys HR0_2.out (Qa0)) | (with_reducible refine Kd.Zu ?_ _) | (with_reducible refine Kd.Zt ?_ _) | (with_reducible refine Kd.Yc ?_))); (case side2 => exact HC0_2.out); rintro e w' ⟨rfl, ⟨nd, rfl⟩⟩))
   go_meet
   case rel => exact ⟨_, (true), Qa5, H', ⟨by first | omega | exact Nat.le_refl _⟩, ⟨Qr12 BK1017.out⟩, ⟨Qa0⟩⟩
  rw [if_neg c8] at H
  have c8b0 : ((l0_2.length : Int) == 0) = false := beq_eq_false_iff_ne.mpr c8
  have c8b1 : ((l0_2.length : Int) != 0) = true := bne_iff_ne.mpr c8
  have c8b2 : ¬ (l0_2 = []) := fun h_ => c8 (by rw [h_]; rfl)
  (first | rw [c8b0] | rw [c8b1] | (simp only [Yi, Yj]; rw [c8b0]) | skip)
  by_cases c10 : a0_0 = true
  ·subst c10
   rw [if_pos rfl] at H
   have H' := Yt.mk H
   clear H
   have hcz11_0 : w3.cell? ⟨gb1017, 0, none⟩ = some (.bool true) := (Zl BK1017.out 0).trans rfl
   have hcz11_1 : w3.cell? ⟨gb1017, 1, none⟩ = some (.slice A0_1 l0_1.length c0_1) := (Zl BK1017.out 1).trans rfl
   have hcz11_2 : w3.cell? ⟨gb1017, 2, none⟩ = some (.slice A0_2 l0_2.length c0_2) := (Zl BK1017.out 2).trans rfl
   have hfz11_0 := Zn BK1017.out 0
   have hfz11_1 := Zn BK1017.out 1
   have hfz11_2 := Zn BK1017.out 2
   go_wp2_with (first | ((with_reducible refine Zr (f := 96) rfl ?_); refine Yg (some 5) rfl rfl Try.func96 Qa8 rfl #[.slice A0_1 l0_1.length c0_1] rfl Qa2 ?_; (with_reducible refine (ratio_natural.calls _ _ l0_1 true _ ?side1 ?side2 A4.out).mono ?_); (case side1 => exact Qe11 (Kd.Ys HR0_1.out HB.out)); (case side2 => exact HC0_1.out); rintro e w' ⟨rfl, ⟨nd, rfl⟩⟩; refine ⟨_, rfl, ?_⟩) | (go_at_call 96; (with_reducible refine (ratio_natural.calls _ _ l0_2 true _ ?side1 ?side2 A6.out).mono ?_); (case side1 => repeat (first | exact (Kd.Ys HR0_2.out (Qa0)) | (with_reducible refine Kd.Zu ?_ _) | (with_reducible refine Kd.Zt ?_ _) | (with_reducible refine Kd.Yc ?_))); (case side2 => exact HC0_2.out); rintro e w' ⟨rfl, ⟨nd, rfl⟩⟩))
   go_meet
   case rel => exact ⟨_, (((l0_1.length : Int) == 0)), Qa5, H', ⟨by first | omega | exact Nat.le_refl _⟩, ⟨Qr12 BK1017.out⟩, ⟨Qa0⟩⟩
  replace c10 := Bool.eq_false_iff.mpr c10
  subst c10
  rw [if_neg (show ¬ (false = true) by decide)] at H
  have H' := Yt.mk H
  clear H
  have hcz12_0 : w3.cell? ⟨gb1017, 0, none⟩ = some (.bool false) := (Zl BK1017.out 0).trans rfl
  have hcz12_1 : w3.cell? ⟨gb1017, 1, none⟩ = some (.slice A0_1 l0_1.length c0_1) := (Zl BK1017.out 1).trans rfl
  have hcz12_2 : w3.cell? ⟨gb1017, 2, none⟩ = some (.slice A0_2 l0_2.length c0_2) := (Zl BK1017.out 2).trans rfl
  have hfz12_0 := Zn BK1017.out 0
  have hfz12_1 := Zn BK1017.out 1
  have hfz12_2 := Zn BK1017.out 2
  go_wp2_with (first | ((with_reducible refine Zr (f := 96) rfl ?_); refine Yg (some 5) rfl rfl Try.func96 Qa8 rfl #[.slice A0_1 l0_1.length c0_1] rfl Qa2 ?_; (with_reducible refine (ratio_natural.calls _ _ l0_1 true _ ?side1 ?side2 A4.out).mono ?_); (case side1 => exact Qe11 (Kd.Ys HR0_1.out HB.out)); (case side2 => exact HC0_1.out); rintro e w' ⟨rfl, ⟨nd, rfl⟩⟩; refine ⟨_, rfl, ?_⟩) | (go_at_call 96; (with_reducible refine (ratio_natural.calls _ _ l0_2 true _ ?side1 ?side2 A6.out).mono ?_); (case side1 => repeat (first | exact (Kd.Ys HR0_2.out (Qa0)) | (with_reducible refine Kd.Zu ?_ _) | (with_reducible refine Kd.Zt ?_ _) | (with_reducible refine Kd.Yc ?_))); (case side2 => exact HC0_2.out); rintro e w' ⟨rfl, ⟨nd, rfl⟩⟩))
  go_meet
  case rel => exact ⟨_, (false), Qa5, H', ⟨by first | omega | exact Nat.le_refl _⟩, ⟨Qr12 BK1017.out⟩, ⟨Qa0⟩⟩
 case rest =>
  clear HC2
  try clear c1; try clear p2; try clear c5; try clear c7; try clear c8; try clear c8b0; try clear c8b1; try clear c8b2; try clear c9; try clear c10; try clear hcz11_0; try clear hcz11_1; try clear hcz11_2; try clear hcz12_0; try clear hcz12_1; try clear hcz12_2; try clear hcz13_0; try clear hcz13_1; try clear hcz13_2; try clear hcz14_0; try clear hcz14_1; try clear hcz14_2; try clear hcz9_0; try clear hcz9_1; try clear hcz9_2; try clear hfz11_0; try clear hfz11_1; try clear hfz11_2; try clear hfz12_0; try clear hfz12_1; try clear hfz12_2; try clear hfz13_0; try clear hfz13_1; try clear hfz13_2; try clear hfz14_0; try clear hfz14_1; try clear hfz14_2; try clear hfz9_0; try clear hfz9_1; try clear hfz9_2
  obtain ⟨kq, x28_1, rfl, HA, HJ1, BK1017, HB⟩ := hcut
  cases kq with
  | zero => exact absurd HA.out (by simp [ratio_Form.j0])
  | succ kj1 =>
   have H := HA.out
   clear HA
   simp only [ratio_Form.j0] at H
   by_cases c15 : x28_1 = true
   ·subst c15
    rw [if_pos rfl] at H
    obtain rfl := Option.some.inj H
    go_wp2
    go_ret
    exact ⟨Qa4, Qa0⟩
   replace c15 := Bool.eq_false_iff.mpr c15
   subst c15
   rw [if_neg (show ¬ (false = true) by decide)] at H
   replace H := Option.bind_eq_some_iff.mp H
   obtain ⟨t1020, A160, H⟩ := H
   try dsimp only at H
   have A16 := Yt.mk A160
   clear A160
   replace H := Option.bind_eq_some_iff.mp H
   obtain ⟨t1023, A170, H⟩ := H
   replace H : (some t1023) = some r := H
   have A17 := Yt.mk A170
   clear A170
   obtain rfl := Option.some.inj H
   have hcz18_0 : wc.cell? ⟨gb1017, 0, none⟩ = some (.bool a0_0) := (Zl BK1017.out 0).trans rfl
   have hcz18_1 : wc.cell? ⟨gb1017, 1, none⟩ = some (.slice A0_1 l0_1.length c0_1) := (Zl BK1017.out 1).trans rfl
   have hcz18_2 : wc.cell? ⟨gb1017, 2, none⟩ = some (.slice A0_2 l0_2.length c0_2) := (Zl BK1017.out 2).trans rfl
   have hfz18_0 := Zn BK1017.out 0
   have hfz18_1 := Zn BK1017.out 1
   have hfz18_2 := Zn BK1017.out 2
   go_wp2_with (first | ((with_reducible refine Zr (f := 91) rfl ?_); refine Yg (some 33) rfl rfl Try.func91 Qa8 rfl #[.slice A0_1 l0_1.length c0_1, .slice A0_2 l0_2.length c0_2] rfl Qa2 ?_; (with_reducible refine (nats_Gcd.calls kj1 _ _ l0_1 _ _ l0_2 t1020 _ ?side1 ?side2 ?side3 ?side4 A16.out).mono ?_); (case side1 => exact Qe11 (Kd.Ys HR0_1.out HB.out)); (case side2 => exact HC0_1.out); (case side3 => exact Qe11 (Kd.Ys HR0_2.out HB.out)); (case side4 => exact HC0_2.out); rintro e w19 ⟨v1021, rfl, ho0, hb⟩; refine ⟨_, rfl, ?_⟩; have HO1022 := Yt.mk (Kd.Yb ho0 (Zk (Qa0))); replace BK1017 := Yt.mk (Zq (g := gb1017) (o := .cells #[.bool a0_0, .slice A0_1 l0_1.length c0_1, .slice A0_2 l0_2.length c0_2] 50 (0, 0)) (Qr12 BK1017.out) hb); replace HB := Yt.mk (Zm (Qa0) hb); (try clear hb); (try clear ho0); obtain ⟨Ao20, co20, eo20⟩ := Kd.Zx HO1022.out; subst eo20) | ((with_reducible refine Zr (f := 95) rfl ?_); refine Yg (some 34) rfl rfl Try.func95 Qa8 rfl #[.slice Ao20 t1020.length co20] rfl Qa2 ?_; (with_reducible refine (ratio_one.calls _ _ t1020 t1023 _ ?side1 ?side2 A17.out).mono ?_); (case side1 => exact Qe11 (Kd.Zs HO1022.out).2.2); (case side2 => exact (Kd.Zs HO1022.out).2.1); rintro e w' ⟨rfl, ⟨nd, rfl⟩⟩; refine ⟨_, rfl, ?_⟩))
   go_ret
   exact ⟨Qa4, Qa0⟩
def ratio_Text.j0 : Nat → ByteArray → Bool → List Int → List Int → Option (ByteArray × Int)
 | 0, _, _, _, _ => none
 | k + 1, x4, x1050000, x1050001, x1050002 => (ratio_one.f x1050002).bind fun t1052 => (if t1052 = true then (some (x4, 0)) else ((nats_Digits.f k x1050002).bind fun t1053 => (if 1 + t1053.size ≤ 9223372036854775807 then (if x4.size + ((⟨#[47]⟩ : ByteArray) ++ t1053).size ≤ 9223372036854775807 then (some (x4 ++ ((⟨#[47]⟩ : ByteArray) ++ t1053), 0)) else (none)) else (none))))
def ratio_Text.f (k : Nat) (a0_0 : Bool) (l0_1 : List Int) (l0_2 : List Int) : Option (ByteArray × Int) := (ratio_Form.f k a0_0 l0_1 l0_2).bind fun t1050 => (if t1050 = true then ((nats_Digits.f k l0_1).bind fun t1051 => (if a0_0 = true then (if 1 + t1051.size ≤ 9223372036854775807 then (ratio_Text.j0 k ((⟨#[45]⟩ : ByteArray) ++ t1051) a0_0 l0_1 l0_2) else (none)) else (ratio_Text.j0 k t1051 a0_0 l0_1 l0_2))) else (some ((⟨#[]⟩ : ByteArray), 20)))
theorem ratio_Text.mono_l : ∀ k, (∀ y0 y1 y2 y3, LeO (ratio_Text.j0 k y0 y1 y2 y3) (ratio_Text.j0 (k + 1) y0 y1 y2 y3))
 | 0 => fun _ _ _ _ r h => by simp [ratio_Text.j0] at h
 | k + 1 => by
  have ih0 := ratio_Text.mono_l k
  ·intro y0 y1 y2 y3
   unfold ratio_Text.j0
   have m0 := @nats_Digits.mono
   have m1 := @ratio_Form.mono
   exact Qa6
theorem ratio_Text.mono : ∀ a0 a1 a2 k, LeO (ratio_Text.f k a0 a1 a2) (ratio_Text.f (k + 1) a0 a1 a2) := by
 intro a0 a1 a2 k
 have ih0 := ratio_Text.mono_l k
 unfold ratio_Text.f
 have m0 := @nats_Digits.mono
 have m1 := @ratio_Form.mono
 exact Qa6
theorem ratio_Text.calls (k : Nat) (a0_0 : Bool) (A0_1 : Option Addr) (c0_1 : Nat) (l0_1 : List Int) (A0_2 : Option Addr) (c0_2 : Nat) (l0_2 : List Int) (r1 : ByteArray) (r2 : Int) (w : World) (hr0_1 : Kd.C (Kd.int .u32) w A0_1 l0_1.length l0_1) (hc0_1 : l0_1.length ≤ c0_1) (hr0_2 : Kd.C (Kd.int .u32) w A0_2 l0_2.length l0_2) (hc0_2 : l0_2.length ≤ c0_2) (h : ratio_Text.f k a0_0 l0_1 l0_2 = some (r1, r2)) :
  Calls Try.prog 57 #[.agg #[.bool a0_0, .slice A0_1 l0_1.length c0_1, .slice A0_2 l0_2.length c0_2]] w fun e w' => e = .returned (.tuple #[.string r1, .int .i64 r2]) ∧ Below w.heap.size w w' := by
 have hu50 := Try.underlying50
 have HR0_1 := Yt.mk hr0_1
 have HC0_1 := Yt.mk hc0_1
 clear hr0_1 hc0_1
 have HR0_2 := Yt.mk hr0_2
 have HC0_2 := Yt.mk hc0_2
 clear hr0_2 hc0_2
 have HB := Yt.mk (Below.refl w.heap.size w)
 unfold ratio_Text.f at h
 have H := h
 clear h
 replace H := Option.bind_eq_some_iff.mp H
 obtain ⟨t1050, A20, H⟩ := H
 try dsimp only at H
 have A2 := Yt.mk A20
 clear A20
 by_cases c3 : t1050 = true
 rotate_left
 ·replace c3 := Bool.eq_false_iff.mpr c3
  subst c3
  rw [if_neg (show ¬ (false = true) by decide)] at H
  simp only [Option.some.injEq, Prod.mk.injEq] at H
  obtain ⟨rfl, rfl⟩ := H
  go_enter Try.func57, Try.ntmps57
  go_wp2_with (first | ((with_reducible refine Yk (N := 1) rfl ?_); refine Yo ?hg (N := 1) ?hd (cs := #[.bool a0_0, .slice A0_1 l0_1.length c0_1, .slice A0_2 l0_2.length c0_2]) (t := 50) ?hr ?_; (case hd => rfl); (case hg => rfl); (case hr => exact Qa9); intro gb1049 hg w22 hbox hb; have BK1049 := Yt.mk (hbox); have GW1049 := Yt.mk ((by rw [hg]; exact (Zk (Qa0)) : w.heap.size ≤ gb1049)); have GE1049 := Yt.mk ((by rw [hg]; exact (Zk (Qa0)) : w.heap.size ≤ gb1049)); replace HB := Yt.mk (Zm (Qa0) hb); clear hb hbox hg; have hcz23_0 : w22.cell? ⟨gb1049, 0, none⟩ = some (.bool a0_0) := (Zl BK1049.out 0).trans rfl; have hcz23_1 : w22.cell? ⟨gb1049, 1, none⟩ = some (.slice A0_1 l0_1.length c0_1) := (Zl BK1049.out 1).trans rfl; have hcz23_2 : w22.cell? ⟨gb1049, 2, none⟩ = some (.slice A0_2 l0_2.length c0_2) := (Zl BK1049.out 2).trans rfl; have hfz23_0 := Zn BK1049.out 0; have hfz23_1 := Zn BK1049.out 1; have hfz23_2 := Zn BK1049.out 2) | ((with_reducible refine Zr (f := 50) rfl ?_); refine Yg (some 6) rfl rfl Try.func50 Qa8 rfl #[.agg #[.bool a0_0, .slice A0_1 l0_1.length c0_1, .slice A0_2 l0_2.length c0_2]] rfl Qa2 ?_; (with_reducible refine (ratio_Form.calls k a0_0 _ _ l0_1 _ _ l0_2 false _ ?side1 ?side2 ?side3 ?side4 A2.out).mono ?_); (case side1 => exact Qe11 (Kd.Ys HR0_1.out HB.out)); (case side2 => exact HC0_1.out); (case side3 => exact Qe11 (Kd.Ys HR0_2.out HB.out)); (case side4 => exact HC0_2.out); rintro e w24 ⟨rfl, hb⟩; refine ⟨_, rfl, ?_⟩; replace BK1049 := Yt.mk (Zq (g := gb1049) (o := .cells #[.bool a0_0, .slice A0_1 l0_1.length c0_1, .slice A0_2 l0_2.length c0_2] 50 (0, 0)) (Qr12 BK1049.out) hb); replace HB := Yt.mk (Zm (Qa0) hb); (try clear hb)))
  go_ret2
  exact ⟨Qa4, Qa0⟩
 subst c3
 rw [if_pos rfl] at H
 replace H := Option.bind_eq_some_iff.mp H
 obtain ⟨t1051, A40, H⟩ := H
 try dsimp only at H
 have A4 := Yt.mk A40
 clear A40
 have HC5 := Yt.mk H
 clear H
 go_enter Try.func57, Try.ntmps57
 go_upto_if 12 with (first | ((with_reducible refine Yk (N := 1) rfl ?_); refine Yo ?hg (N := 1) ?hd (cs := #[.bool a0_0, .slice A0_1 l0_1.length c0_1, .slice A0_2 l0_2.length c0_2]) (t := 50) ?hr ?_; (case hd => rfl); (case hg => rfl); (case hr => exact Qa9); intro gb1049 hg w6 hbox hb; have BK1049 := Yt.mk (hbox); have GW1049 := Yt.mk ((by rw [hg]; exact (Zk (Qa0)) : w.heap.size ≤ gb1049)); have GE1049 := Yt.mk ((by rw [hg]; exact (Zk (Qa0)) : w.heap.size ≤ gb1049)); replace HB := Yt.mk (Zm (Qa0) hb); clear hb hbox hg; have hcz7_0 : w6.cell? ⟨gb1049, 0, none⟩ = some (.bool a0_0) := (Zl BK1049.out 0).trans rfl; have hcz7_1 : w6.cell? ⟨gb1049, 1, none⟩ = some (.slice A0_1 l0_1.length c0_1) := (Zl BK1049.out 1).trans rfl; have hcz7_2 : w6.cell? ⟨gb1049, 2, none⟩ = some (.slice A0_2 l0_2.length c0_2) := (Zl BK1049.out 2).trans rfl; have hfz7_0 := Zn BK1049.out 0; have hfz7_1 := Zn BK1049.out 1; have hfz7_2 := Zn BK1049.out 2) | ((with_reducible refine Zr (f := 50) rfl ?_); refine Yg (some 6) rfl rfl Try.func50 Qa8 rfl #[.agg #[.bool a0_0, .slice A0_1 l0_1.length c0_1, .slice A0_2 l0_2.length c0_2]] rfl Qa2 ?_; (with_reducible refine (ratio_Form.calls k a0_0 _ _ l0_1 _ _ l0_2 true _ ?side1 ?side2 ?side3 ?side4 A2.out).mono ?_); (case side1 => exact Qe11 (Kd.Ys HR0_1.out HB.out)); (case side2 => exact HC0_1.out); (case side3 => exact Qe11 (Kd.Ys HR0_2.out HB.out)); (case side4 => exact HC0_2.out); rintro e w8 ⟨rfl, hb⟩; refine ⟨_, rfl, ?_⟩; replace BK1049 := Yt.mk (Zq (g := gb1049) (o := .cells #[.bool a0_0, .slice A0_1 l0_1.length c0_1, .slice A0_2 l0_2.length c0_2] 50 (0, 0)) (Qr12 BK1049.out) hb); replace HB := Yt.mk (Zm (Qa0) hb); (try clear hb); have hcz9_0 : w8.cell? ⟨gb1049, 0, none⟩ = some (.bool a0_0) := (Zl BK1049.out 0).trans rfl; have hcz9_1 : w8.cell? ⟨gb1049, 1, none⟩ = some (.slice A0_1 l0_1.length c0_1) := (Zl BK1049.out 1).trans rfl; have hcz9_2 : w8.cell? ⟨gb1049, 2, none⟩ = some (.slice A0_2 l0_2.length c0_2) := (Zl BK1049.out 2).trans rfl; have hfz9_0 := Zn BK1049.out 0; have hfz9_1 := Zn BK1049.out 1; have hfz9_2 := Zn BK1049.out 2) | ((with_reducible refine Zr (f := 86) rfl ?_); refine Yg (some 10) rfl rfl Try.func86 Qa8 rfl #[.slice A0_1 l0_1.length c0_1] rfl Qa2 ?_; (with_reducible refine (nats_Digits.calls k _ _ l0_1 t1051 _ ?side1 ?side2 A4.out).mono ?_); (case side1 => exact Qe11 (Kd.Ys HR0_1.out HB.out)); (case side2 => exact HC0_1.out); rintro e w10 ⟨rfl, hb⟩; refine ⟨_, rfl, ?_⟩; replace BK1049 := Yt.mk (Zq (g := gb1049) (o := .cells #[.bool a0_0, .slice A0_1 l0_1.length c0_1, .slice A0_2 l0_2.length c0_2] 50 (0, 0)) (Qr12 BK1049.out) hb); replace HB := Yt.mk (Zm (Qa0) hb); (try clear hb); have hcz11_0 : w10.cell? ⟨gb1049, 0, none⟩ = some (.bool a0_0) := (Zl BK1049.out 0).trans rfl; have hcz11_1 : w10.cell? ⟨gb1049, 1, none⟩ = some (.slice A0_1 l0_1.length c0_1) := (Zl BK1049.out 1).trans rfl; have hcz11_2 : w10.cell? ⟨gb1049, 2, none⟩ = some (.slice A0_2 l0_2.length c0_2) := (Zl BK1049.out 2).trans rfl; have hfz11_0 := Zn BK1049.out 0; have hfz11_1 := Zn BK1049.out 1; have hfz11_2 := Zn BK1049.out 2))
 (try simp only [Act.put, List.setIfInBounds_toArray, List.set_cons_zero, List.set_cons_succ])
 go_cut [4] (fun v4 wc => ∃ (kq : Nat) (x4_4 : ByteArray), v4 = .string x4_4 ∧ Yt (ratio_Text.j0 kq x4_4 a0_0 l0_1 l0_2 = some (r1, r2)) ∧ Yt (kq ≤ k) ∧ Yt (wc.heap[gb1049]? = some (.cells #[.bool a0_0, (.slice A0_1 l0_1.length c0_1), (.slice A0_2 l0_2.length c0_2)] 50 (0, 0))) ∧ Yt (Below w.heap.size w wc))
 case first =>
  have H := HC5.out
  clear HC5
  by_cases c12 : a0_0 = true
  rotate_left
  ·replace c12 := Bool.eq_false_iff.mpr c12
   subst c12
   rw [if_neg (show ¬ (false = true) by decide)] at H
   have H' := Yt.mk H
   clear H
   go_wp2
   go_meet
   case rel => exact ⟨_, (t1051), Qa5, H', ⟨by first | omega | exact Nat.le_refl _⟩, ⟨Qr12 BK1049.out⟩, ⟨Qa0⟩⟩
  subst c12
  rw [if_pos rfl] at H
  by_cases c13 : 1 + t1051.size ≤ 9223372036854775807
  rotate_left
  ·rw [if_neg c13] at H
   exact absurd H (by simp)
  rw [if_pos c13] at H
  have c13b0 := eq_true c13
  have c13b1 : decide (1 + t1051.size ≤ 9223372036854775807) = true := decide_eq_true c13
  try have c13b2 : (9223372036854775807 < 1 + t1051.size) = False := eq_false (Nat.not_lt.2 c13)
  have H' := Yt.mk H
  clear H
  go_wp2
  go_meet
  case rel => exact ⟨_, ((⟨#[45]⟩ : ByteArray) ++ t1051), Qa5, H', ⟨by first | omega | exact Nat.le_refl _⟩, ⟨Qr12 BK1049.out⟩, ⟨Qa0⟩⟩
 case rest =>
  clear HC5
  try clear c1; try clear p2; try clear c3; try clear c5; try clear c8; try clear c12; try clear c13; try clear c13b0; try clear c13b1; try clear c13b2; try clear hcz11_0; try clear hcz11_1; try clear hcz11_2; try clear hcz7_0; try clear hcz7_1; try clear hcz7_2; try clear hcz9_0; try clear hcz9_1; try clear hcz9_2; try clear hfz11_0; try clear hfz11_1; try clear hfz11_2; try clear hfz7_0; try clear hfz7_1; try clear hfz7_2; try clear hfz9_0; try clear hfz9_1; try clear hfz9_2
  obtain ⟨kq, x4_4, rfl, HA, HJ4, BK1049, HB⟩ := hcut
  cases kq with
  | zero => exact absurd HA.out (by simp [ratio_Text.j0])
  | succ kj4 =>
   have H := HA.out
   clear HA
   simp only [ratio_Text.j0] at H
   replace H := Option.bind_eq_some_iff.mp H
   obtain ⟨t1052, A140, H⟩ := H
   try dsimp only at H
   have A14 := Yt.mk A140
   clear A140
   by_cases c15 : t1052 = true
   ·subst c15
    rw [if_pos rfl] at H
    simp only [Option.some.injEq, Prod.mk.injEq] at H
    obtain ⟨rfl, rfl⟩ := H
    have hcz16_0 : wc.cell? ⟨gb1049, 0, none⟩ = some (.bool a0_0) := (Zl BK1049.out 0).trans rfl
    have hcz16_1 : wc.cell? ⟨gb1049, 1, none⟩ = some (.slice A0_1 l0_1.length c0_1) := (Zl BK1049.out 1).trans rfl
    have hcz16_2 : wc.cell? ⟨gb1049, 2, none⟩ = some (.slice A0_2 l0_2.length c0_2) := (Zl BK1049.out 2).trans rfl
    have hfz16_0 := Zn BK1049.out 0
    have hfz16_1 := Zn BK1049.out 1
    have hfz16_2 := Zn BK1049.out 2
    go_wp2_with (first | ((with_reducible refine Zr (f := 95) rfl ?_); refine Yg (some 17) rfl rfl Try.func95 Qa8 rfl #[.slice A0_2 l0_2.length c0_2] rfl Qa2 ?_; (with_reducible refine (ratio_one.calls _ _ l0_2 true _ ?side1 ?side2 A14.out).mono ?_); (case side1 => exact Qe11 (Kd.Ys HR0_2.out HB.out)); (case side2 => exact HC0_2.out); rintro e w' ⟨rfl, ⟨nd, rfl⟩⟩; refine ⟨_, rfl, ?_⟩))
    go_ret2
    exact ⟨Qa4, Qa0⟩
   replace c15 := Bool.eq_false_iff.mpr c15
   subst c15
   rw [if_neg (show ¬ (false = true) by decide)] at H
   replace H := Option.bind_eq_some_iff.mp H
   obtain ⟨t1053, A170, H⟩ := H
   try dsimp only at H
   have A17 := Yt.mk A170
   clear A170
   by_cases c18 : 1 + t1053.size ≤ 9223372036854775807
   rotate_left
   ·rw [if_neg c18] at H
    exact absurd H (by simp)
   rw [if_pos c18] at H
   have c18b0 := eq_true c18
   have c18b1 : decide (1 + t1053.size ≤ 9223372036854775807) = true := decide_eq_true c18
   try have c18b2 : (9223372036854775807 < 1 + t1053.size) = False := eq_false (Nat.not_lt.2 c18)
   by_cases c19 : x4_4.size + ((⟨#[47]⟩ : ByteArray) ++ t1053).size ≤ 9223372036854775807
   rotate_left
   ·rw [if_neg c19] at H
    exact absurd H (by simp)
   rw [if_pos c19] at H
   have c19b0 := eq_true c19
   have c19b1 : decide (x4_4.size + ((⟨#[47]⟩ : ByteArray) ++ t1053).size ≤ 9223372036854775807) = true := decide_eq_true c19
   try have c19b2 : (9223372036854775807 < x4_4.size + ((⟨#[47]⟩ : ByteArray) ++ t1053).size) = False := eq_false (Nat.not_lt.2 c19)
   simp only [Option.some.injEq, Prod.mk.injEq] at H
   obtain ⟨rfl, rfl⟩ := H
   have hcz20_0 : wc.cell? ⟨gb1049, 0, none⟩ = some (.bool a0_0) := (Zl BK1049.out 0).trans rfl
   have hcz20_1 : wc.cell? ⟨gb1049, 1, none⟩ = some (.slice A0_1 l0_1.length c0_1) := (Zl BK1049.out 1).trans rfl
   have hcz20_2 : wc.cell? ⟨gb1049, 2, none⟩ = some (.slice A0_2 l0_2.length c0_2) := (Zl BK1049.out 2).trans rfl
   have hfz20_0 := Zn BK1049.out 0
   have hfz20_1 := Zn BK1049.out 1
   have hfz20_2 := Zn BK1049.out 2
   go_wp2_with (first | ((with_reducible refine Zr (f := 95) rfl ?_); refine Yg (some 17) rfl rfl Try.func95 Qa8 rfl #[.slice A0_2 l0_2.length c0_2] rfl Qa2 ?_; (with_reducible refine (ratio_one.calls _ _ l0_2 false _ ?side1 ?side2 A14.out).mono ?_); (case side1 => exact Qe11 (Kd.Ys HR0_2.out HB.out)); (case side2 => exact HC0_2.out); rintro e w' ⟨rfl, ⟨nd, rfl⟩⟩; refine ⟨_, rfl, ?_⟩) | ((with_reducible refine Zr (f := 86) rfl ?_); refine Yg (some 22) rfl rfl Try.func86 Qa8 rfl #[.slice A0_2 l0_2.length c0_2] rfl Qa2 ?_; (with_reducible refine (nats_Digits.calls kj4 _ _ l0_2 t1053 _ ?side1 ?side2 A17.out).mono ?_); (case side1 => repeat (first | exact (Kd.Ys HR0_2.out (Qa0)) | (with_reducible refine Kd.Zu ?_ _) | (with_reducible refine Kd.Zt ?_ _) | (with_reducible refine Kd.Yc ?_))); (case side2 => exact HC0_2.out); rintro e w21 ⟨rfl, hb⟩; refine ⟨_, rfl, ?_⟩; replace BK1049 := Yt.mk (Zq (g := gb1049) (o := .cells #[.bool a0_0, .slice A0_1 l0_1.length c0_1, .slice A0_2 l0_2.length c0_2] 50 (0, 0)) (Qr12 BK1049.out) hb); replace HB := Yt.mk (Zm (Qa0) hb); (try clear hb)))
   go_ret2
   exact ⟨Qa4, Qa0⟩
def ratio_forms.l0 : Nat → List (S50) → Int → Int → Option (Bool)
 | 0, _, _, _ => none
 | k + 1, x5, x6, x7 => if x7 < x6 then (if 0 ≤ x7 then (if x7 < (x5.length : Int) then ((ratio_Form.f k ((rd_T50 x5 x7).f0) ((rd_T50 x5 x7).f1) ((rd_T50 x5 x7).f2)).bind fun t1087 => (if t1087 = true then (ratio_forms.l0 k x5 x6 (wrap64 (x7 + 1))) else (some false))) else (none)) else (none)) else (some true)
def ratio_forms.f (k : Nat) (l0 : List (S50)) : Option (Bool) := ratio_forms.l0 k l0 (l0.length : Int) 0
theorem ratio_forms.mono_l : ∀ k, (∀ y0 y1 y2, LeO (ratio_forms.l0 k y0 y1 y2) (ratio_forms.l0 (k + 1) y0 y1 y2))
 | 0 => fun _ _ _ r h => by simp [ratio_forms.l0] at h
 | k + 1 => by
  have ih0 := ratio_forms.mono_l k
  ·intro y0 y1 y2
   unfold ratio_forms.l0
   have m0 := @ratio_Form.mono
   exact Qa6
theorem ratio_forms.mono : ∀ a0 k, LeO (ratio_forms.f k a0) (ratio_forms.f (k + 1) a0) := by
 intro a0 k
 have ih0 := ratio_forms.mono_l k
 unfold ratio_forms.f
 have m0 := @ratio_Form.mono
 exact Qa6
theorem ratio_forms.calls (k : Nat) (A0 : Option Addr) (c0 : Nat) (l0 : List (S50)) (r : Bool) (w : World) (hr0 : Kd.C k50 w A0 l0.length l0) (hc0 : l0.length ≤ c0) (h : ratio_forms.f k l0 = some r) :
  Calls Try.prog 103 #[.slice A0 l0.length c0] w fun e w' => e = .returned (.bool r) ∧ Below w.heap.size w w' := by
 have hu50 := Try.underlying50
 have HR0 := Yt.mk hr0
 have HC0 := Yt.mk hc0
 clear hr0 hc0
 have HB := Yt.mk (Below.refl w.heap.size w)
 unfold ratio_forms.f at h
 have H := h
 clear h
 have H' := Yt.mk H
 clear H
 go_enter Try.func103, Try.ntmps103
 go_wp2
 go_loopg [7] k (fun kq v7 w' => ∃ (x7_1 : Int), v7 = .int .i64 x7_1 ∧ Yt (ratio_forms.l0 kq l0 (l0.length : Int) x7_1 = some r) ∧ Yt (kq ≤ k) ∧ Yt (Below w.heap.size w w'))
 case atStart => exact ⟨(0), Qa5, H', ⟨Nat.le_refl _⟩, ⟨Qa0⟩⟩
 case round =>
  clear H'
  try clear c1
  obtain ⟨x7_1, rfl, HA, HK1, HB⟩ := hrel
  cases gk with
  | zero => exact absurd HA.out (by simp [ratio_forms.l0])
  | succ k1 =>
   have H := HA.out
   clear HA
   simp only [ratio_forms.l0] at H
   by_cases c2 : x7_1 < (l0.length : Int)
   rotate_left
   ·rw [if_neg c2] at H
    have c2b0 : decide (x7_1 < (l0.length : Int)) = false := decide_eq_false c2
    clear c2
    obtain rfl := Option.some.inj H
    go_wp2
    go_ret
    exact ⟨Qa4, Qa0⟩
   rw [if_pos c2] at H
   have c2b0 : decide (x7_1 < (l0.length : Int)) = true := decide_eq_true c2
   clear c2
   by_cases c3 : 0 ≤ x7_1
   rotate_left
   ·rw [if_neg c3] at H
    exact absurd H (by simp)
   rw [if_pos c3] at H
   have c3b0 : decide (0 ≤ x7_1) = true := decide_eq_true c3
   clear c3
   by_cases c4 : x7_1 < (l0.length : Int)
   rotate_left
   ·rw [if_neg c4] at H
    exact absurd H (by simp)
   rw [if_pos c4] at H
   have c4b0 : decide (x7_1 < (l0.length : Int)) = true := decide_eq_true c4
   clear c4
   replace H := Option.bind_eq_some_iff.mp H
   obtain ⟨t1087, A50, H⟩ := H
   try dsimp only at H
   have A5 := Yt.mk A50
   clear A50
   by_cases c6 : t1087 = true
   ·subst c6
    rw [if_pos rfl] at H
    have H' := Yt.mk H
    clear H
    have p1085 : 0 ≤ (x7_1 : Int) := Qd
    have q1085 : x7_1 < (l0.length : Int) := Qd
    obtain ⟨ad1085, A1085_1, c1085_1, A1085_2, c1085_2, e1085, hx1085_0, hx1085_1, hx1085_2, hl1085_1, hi1085_1, hl1085_2, hi1085_2⟩ := at_T50 HR0.out x7_1 p1085 q1085
    cases e1085
    replace hx1085_0 := (HB.out.cell (World.block_lt_of_cell? w _ hx1085_0)).trans hx1085_0
    replace hx1085_1 := (HB.out.cell (World.block_lt_of_cell? w _ hx1085_1)).trans hx1085_1
    replace hx1085_2 := (HB.out.cell (World.block_lt_of_cell? w _ hx1085_2)).trans hx1085_2
    have HR1085_1 := Yt.mk hi1085_1
    have HC1085_1 := Yt.mk hl1085_1
    clear hi1085_1 hl1085_1
    have HR1085_2 := Yt.mk hi1085_2
    have HC1085_2 := Yt.mk hl1085_2
    clear hi1085_2 hl1085_2
    replace p1085 := eq_true p1085
    replace q1085 := eq_true q1085
    go_wp2_with (first | ((with_reducible refine Yk (N := 4) rfl ?_); refine Yo ?hg (N := 4) ?hd (cs := #[.bool false, .slice none 0 0, .slice none 0 0]) (t := 50) ?hr ?_; (case hd => rfl); (case hg => rfl); (case hr => exact Qa9); intro gb1086 hg w7 hbox hb; have BK1086 := Yt.mk (hbox); have GW1086 := Yt.mk ((by rw [hg]; exact (Zk (Qa0)) : w.heap.size ≤ gb1086)); have GE1086 := Yt.mk ((by rw [hg]; exact (Zk (Qa0)) : w.heap.size ≤ gb1086)); replace HB := Yt.mk (Zm (Qa0) hb); clear hb hbox hg; have hcz8_0 : w7.cell? ⟨gb1086, 0, none⟩ = some (.bool false) := (Zl BK1086.out 0).trans rfl; have hcz8_1 : w7.cell? ⟨gb1086, 1, none⟩ = some (.slice none 0 0) := (Zl BK1086.out 1).trans rfl; have hcz8_2 : w7.cell? ⟨gb1086, 2, none⟩ = some (.slice none 0 0) := (Zl BK1086.out 2).trans rfl; have hfz8_0 := Zn BK1086.out 0; have hfz8_1 := Zn BK1086.out 1; have hfz8_2 := Zn BK1086.out 2) | ((with_reducible refine Zr (f := 50) rfl ?_); refine Yg (some 12) rfl rfl Try.func50 Qa8 rfl #[.agg #[.bool ((rd_T50 l0 x7_1).f0), .slice A1085_1 ((rd_T50 l0 x7_1).f1).length c1085_1, .slice A1085_2 ((rd_T50 l0 x7_1).f2).length c1085_2]] rfl Qa2 ?_; (with_reducible refine (ratio_Form.calls k1 ((rd_T50 l0 x7_1).f0) _ _ ((rd_T50 l0 x7_1).f1) _ _ ((rd_T50 l0 x7_1).f2) true _ ?side1 ?side2 ?side3 ?side4 A5.out).mono ?_); (case side1 => exact Kd.Ys HR1085_1.out (Qa0)); (case side2 => exact HC1085_1.out); (case side3 => exact Kd.Ys HR1085_2.out (Qa0)); (case side4 => exact HC1085_2.out); rintro e w9 ⟨rfl, hb⟩; refine ⟨_, rfl, ?_⟩; replace BK1086 := Yt.mk (Zq (g := gb1086) (o := .cells #[.bool ((rd_T50 l0 x7_1).f0), .slice A1085_1 ((rd_T50 l0 x7_1).f1).length c1085_1, .slice A1085_2 ((rd_T50 l0 x7_1).f2).length c1085_2] 50 (0, 0)) (by (with_reducible repeat (first | refine Zg ?_ _ | refine Zi ?_ | refine Zh ?_ _)); refine Ym (cs := #[.bool ((rd_T50 l0 x7_1).f0), .slice A1085_1 ((rd_T50 l0 x7_1).f1).length c1085_1, .slice none 0 0]) ?_ 2 _ rfl; (with_reducible repeat (first | refine Zg ?_ _ | refine Zi ?_ | refine Zh ?_ _)); refine Ym (cs := #[.bool ((rd_T50 l0 x7_1).f0), .slice none 0 0, .slice none 0 0]) ?_ 1 _ rfl; (with_reducible repeat (first | refine Zg ?_ _ | refine Zi ?_ | refine Zh ?_ _)); refine Ym (cs := #[.bool false, .slice none 0 0, .slice none 0 0]) ?_ 0 _ rfl; (with_reducible repeat (first | refine Zg ?_ _ | refine Zi ?_ | refine Zh ?_ _)); exact BK1086.out) hb); replace HB := Yt.mk (Zm (Qa0) hb); (try clear hb)))
    go_roundg k1
    case measure => have := HK1.out; omega
    case rel => exact ⟨(wrap64 (x7_1 + 1)), Qa5, H', ⟨by have := HK1.out; omega⟩, ⟨Qa0⟩⟩
   replace c6 := Bool.eq_false_iff.mpr c6
   subst c6
   rw [if_neg (show ¬ (false = true) by decide)] at H
   obtain rfl := Option.some.inj H
   have p1085 : 0 ≤ (x7_1 : Int) := Qd
   have q1085 : x7_1 < (l0.length : Int) := Qd
   obtain ⟨ad1085, A1085_1, c1085_1, A1085_2, c1085_2, e1085, hx1085_0, hx1085_1, hx1085_2, hl1085_1, hi1085_1, hl1085_2, hi1085_2⟩ := at_T50 HR0.out x7_1 p1085 q1085
   cases e1085
   replace hx1085_0 := (HB.out.cell (World.block_lt_of_cell? w _ hx1085_0)).trans hx1085_0
   replace hx1085_1 := (HB.out.cell (World.block_lt_of_cell? w _ hx1085_1)).trans hx1085_1
   replace hx1085_2 := (HB.out.cell (World.block_lt_of_cell? w _ hx1085_2)).trans hx1085_2
   have HR1085_1 := Yt.mk hi1085_1
   have HC1085_1 := Yt.mk hl1085_1
   clear hi1085_1 hl1085_1
   have HR1085_2 := Yt.mk hi1085_2
   have HC1085_2 := Yt.mk hl1085_2
   clear hi1085_2 hl1085_2
   replace p1085 := eq_true p1085
   replace q1085 := eq_true q1085
   go_wp2_with (first | ((with_reducible refine Yk (N := 4) rfl ?_); refine Yo ?hg (N := 4) ?hd (cs := #[.bool false, .slice none 0 0, .slice none 0 0]) (t := 50) ?hr ?_; (case hd => rfl); (case hg => rfl); (case hr => exact Qa9); intro gb1086 hg w10 hbox hb; have BK1086 := Yt.mk (hbox); have GW1086 := Yt.mk ((by rw [hg]; exact (Zk (Qa0)) : w.heap.size ≤ gb1086)); have GE1086 := Yt.mk ((by rw [hg]; exact (Zk (Qa0)) : w.heap.size ≤ gb1086)); replace HB := Yt.mk (Zm (Qa0) hb); clear hb hbox hg; have hcz11_0 : w10.cell? ⟨gb1086, 0, none⟩ = some (.bool false) := (Zl BK1086.out 0).trans rfl; have hcz11_1 : w10.cell? ⟨gb1086, 1, none⟩ = some (.slice none 0 0) := (Zl BK1086.out 1).trans rfl; have hcz11_2 : w10.cell? ⟨gb1086, 2, none⟩ = some (.slice none 0 0) := (Zl BK1086.out 2).trans rfl; have hfz11_0 := Zn BK1086.out 0; have hfz11_1 := Zn BK1086.out 1; have hfz11_2 := Zn BK1086.out 2) | ((with_reducible refine Zr (f := 50) rfl ?_); refine Yg (some 12) rfl rfl Try.func50 Qa8 rfl #[.agg #[.bool ((rd_T50 l0 x7_1).f0), .slice A1085_1 ((rd_T50 l0 x7_1).f1).length c1085_1, .slice A1085_2 ((rd_T50 l0 x7_1).f2).length c1085_2]] rfl Qa2 ?_; (with_reducible refine (ratio_Form.calls k1 ((rd_T50 l0 x7_1).f0) _ _ ((rd_T50 l0 x7_1).f1) _ _ ((rd_T50 l0 x7_1).f2) false _ ?side1 ?side2 ?side3 ?side4 A5.out).mono ?_); (case side1 => exact Kd.Ys HR1085_1.out (Qa0)); (case side2 => exact HC1085_1.out); (case side3 => exact Kd.Ys HR1085_2.out (Qa0)); (case side4 => exact HC1085_2.out); rintro e w12 ⟨rfl, hb⟩; refine ⟨_, rfl, ?_⟩; replace BK1086 := Yt.mk (Zq (g := gb1086) (o := .cells #[.bool ((rd_T50 l0 x7_1).f0), .slice A1085_1 ((rd_T50 l0 x7_1).f1).length c1085_1, .slice A1085_2 ((rd_T50 l0 x7_1).f2).length c1085_2] 50 (0, 0)) (by (with_reducible repeat (first | refine Zg ?_ _ | refine Zi ?_ | refine Zh ?_ _)); refine Ym (cs := #[.bool ((rd_T50 l0 x7_1).f0), .slice A1085_1 ((rd_T50 l0 x7_1).f1).length c1085_1, .slice none 0 0]) ?_ 2 _ rfl; (with_reducible repeat (first | refine Zg ?_ _ | refine Zi ?_ | refine Zh ?_ _)); refine Ym (cs := #[.bool ((rd_T50 l0 x7_1).f0), .slice none 0 0, .slice none 0 0]) ?_ 1 _ rfl; (with_reducible repeat (first | refine Zg ?_ _ | refine Zi ?_ | refine Zh ?_ _)); refine Ym (cs := #[.bool false, .slice none 0 0, .slice none 0 0]) ?_ 0 _ rfl; (with_reducible repeat (first | refine Zg ?_ _ | refine Zi ?_ | refine Zh ?_ _)); exact BK1086.out) hb); replace HB := Yt.mk (Zm (Qa0) hb); (try clear hb)))
   go_ret
   exact ⟨Qa4, Qa0⟩
def ratio_add.f (k : Nat) (a0_0 : Bool) (l0_1 : List Int) (l0_2 : List Int) (a1_0 : Bool) (l1_1 : List Int) (l1_2 : List Int) : Option (Bool × List Int × List Int × Int) := (nats_Mul.f k l0_1 l1_2).bind fun t1091 => ((nats_Mul.f k l1_1 l0_2).bind fun t1094 => ((nats_Mul.f k l0_2 l1_2).bind fun t1097 => (if (a0_0 == a1_0) = true then (none) else ((nats_Cmp.f k t1091 t1094).bind fun t1100 => (if t1100 < 0 then (none) else ((nats_Sub.f k t1091 t1094).bind fun t1101 => ((ratio_Make.f k a0_0 t1101 t1097).bind fun bt1104 => (some (bt1104.1, bt1104.2.1, bt1104.2.2.1, bt1104.2.2.2)))))))))
theorem ratio_add.mono : ∀ a0 a1 a2 a3 a4 a5 k, LeO (ratio_add.f k a0 a1 a2 a3 a4 a5) (ratio_add.f (k + 1) a0 a1 a2 a3 a4 a5) := by
 intro a0 a1 a2 a3 a4 a5 k
 unfold ratio_add.f
 have m0 := @nats_Cmp.mono
 have m1 := @nats_Mul.mono
 have m2 := @nats_Sub.mono
 have m3 := @ratio_Make.mono
 exact Qa6
def ratio_add.T1 : Bool × List (List Nat × List Nat) := (true, [([], []), ([0], [0]), ([], []), ([2], [2]), ([1, 3], [1, 3]), ([], []), ([5], [5]), ([], []), ([7], [7]), ([6, 8, 4], [6, 8]), ([], []), ([10], [10]), ([], []), ([12], [12]), ([11, 13, 9], [11, 13]), ([4, 14, 0, 1, 2, 3, 4], [4]), ([9, 15, 0, 1, 2, 3, 4, 5, 6, 7, 8, 9, 15], [9]), ([14, 16, 0, 1, 2, 3, 4, 5, 6, 7, 8, 9, 10, 11, 12, 13, 14, 15, 16], [14])])
def ratio_add.B1 : List Nat := [0, 1, 0, 4, 15, 0, 32, 0, 128, 511, 0, 1024, 0, 4096, 16383, 32767, 65535, 131071]
theorem ratio_add.tab1 : rtab .any (opsOf Try.f106 1) = ratio_add.T1 := by kernel_rfl
theorem ratio_add.bits1 : waitsOk ratio_add.T1.2 ratio_add.B1 = true := by kernel_rfl
def ratio_add.T6 : Bool × List (List Nat × List Nat) := (true, [([], []), ([0], [0]), ([], []), ([], []), ([2, 3], [2, 3]), ([], []), ([1, 4, 5, 4], [1, 4, 5]), ([6], [6]), ([6], [6]), ([7, 6, 0, 1, 2, 3, 4, 5, 6, 7, 8], [7]), ([8, 9, 0, 1, 2, 3, 4, 5, 6, 7, 8, 9], [8])])
def ratio_add.B6 : List Nat := [0, 1, 0, 0, 12, 0, 63, 127, 127, 511, 1023]
theorem ratio_add.tab6 : rtab .any (opsOf Try.f106 6) = ratio_add.T6 := by kernel_rfl
theorem ratio_add.bits6 : waitsOk ratio_add.T6.2 ratio_add.B6 = true := by kernel_rfl
theorem ratio_add.calls (k : Nat) (a0_0 : Bool) (A0_1 : Option Addr) (c0_1 : Nat) (l0_1 : List Int) (A0_2 : Option Addr) (c0_2 : Nat) (l0_2 : List Int) (a1_0 : Bool) (A1_1 : Option Addr) (c1_1 : Nat) (l1_1 : List Int) (A1_2 : Option Addr) (c1_2 : Nat) (l1_2 : List Int) (r1 : Bool) (r2 : List Int) (r3 : List Int) (r4 : Int) (w : World) (hr0_1 : Kd.C (Kd.int .u32) w A0_1 l0_1.length l0_1) (hc0_1 : l0_1.length ≤ c0_1) (hr0_2 : Kd.C (Kd.int .u32) w A0_2 l0_2.length l0_2) (hc0_2 : l0_2.length ≤ c0_2) (hr1_1 : Kd.C (Kd.int .u32) w A1_1 l1_1.length l1_1) (hc1_1 : l1_1.length ≤ c1_1) (hr1_2 : Kd.C (Kd.int .u32) w A1_2 l1_2.length l1_2) (hc1_2 : l1_2.length ≤ c1_2) (h : ratio_add.f k a0_0 l0_1 l0_2 a1_0 l1_1 l1_2 = some (r1, r2, r3, r4)) :
  Calls Try.prog 106 #[.agg #[.bool a0_0, .slice A0_1 l0_1.length c0_1, .slice A0_2 l0_2.length c0_2], .agg #[.bool a1_0, .slice A1_1 l1_1.length c1_1, .slice A1_2 l1_2.length c1_2]] w fun e w' => ∃ v1_ v2_ : Value, e = .returned (.tuple #[.agg #[.bool r1, v1_, v2_], .int .i64 r4]) ∧ Kd.R (Kd.int .u32) 47 w' w.heap.size (fun k_ => some k_ ≠ (v2_ : Value).ownBlock) v1_ r2 ∧ Kd.R (Kd.int .u32) 47 w' w.heap.size (fun k_ => some k_ ≠ (v1_ : Value).ownBlock) v2_ r3 ∧ Below w.heap.size w w' := by
 have hu50 := Try.underlying50
 have HR0_1 := Yt.mk hr0_1
 have HC0_1 := Yt.mk hc0_1
 clear hr0_1 hc0_1
 have HR0_2 := Yt.mk hr0_2
 have HC0_2 := Yt.mk hc0_2
 clear hr0_2 hc0_2
 have HR1_1 := Yt.mk hr1_1
 have HC1_1 := Yt.mk hc1_1
 clear hr1_1 hc1_1
 have HR1_2 := Yt.mk hr1_2
 have HC1_2 := Yt.mk hc1_2
 clear hr1_2 hc1_2
 have HB := Yt.mk (Below.refl w.heap.size w)
 unfold ratio_add.f at h
 have H := h
 clear h
 replace H := Option.bind_eq_some_iff.mp H
 obtain ⟨t1091, A30, H⟩ := H
 try dsimp only at H
 have A3 := Yt.mk A30
 clear A30
 replace H := Option.bind_eq_some_iff.mp H
 obtain ⟨t1094, A40, H⟩ := H
 try dsimp only at H
 have A4 := Yt.mk A40
 clear A40
 replace H := Option.bind_eq_some_iff.mp H
 obtain ⟨t1097, A50, H⟩ := H
 try dsimp only at H
 have A5 := Yt.mk A50
 clear A50
 by_cases c6 : (a0_0 == a1_0) = true
 ·rw [if_pos c6] at H
  exact absurd H (by simp)
 rw [if_neg c6] at H
 have c6b0 : (a0_0 == a1_0) = false := by simpa using c6
 (try (have c6b1 : decide (a0_0 = a1_0) = false := by simpa using c6))
 (try (have c6b2 : (a0_0 == a1_0) = false := by simpa using c6))
 (try (have c6b3 : ¬ (a0_0 = a1_0) := by simpa using c6))
 clear c6
 replace H := Option.bind_eq_some_iff.mp H
 obtain ⟨t1100, A70, H⟩ := H
 try dsimp only at H
 have A7 := Yt.mk A70
 clear A70
 by_cases c8 : t1100 < 0
 ·rw [if_pos c8] at H
  exact absurd H (by simp)
 rw [if_neg c8] at H
 have c8b0 : decide (t1100 < 0) = false := decide_eq_false c8
 clear c8
 replace H := Option.bind_eq_some_iff.mp H
 obtain ⟨t1101, A90, H⟩ := H
 try dsimp only at H
 have A9 := Yt.mk A90
 clear A90
 replace H := Option.bind_eq_some_iff.mp H
 obtain ⟨⟨t1104, t1105, t1108, t1111⟩, A100, H⟩ := H
 replace H : (some (t1104, t1105, t1108, t1111)) = some (r1, r2, r3, r4) := H
 have A10 := Yt.mk A100
 clear A100
 simp only [Option.some.injEq, Prod.mk.injEq] at H
 obtain ⟨rfl, rfl, rfl, rfl⟩ := H
 go_enter Try.func106, Try.ntmps106
 try go_wp2_with (first | ((with_reducible refine Yk (N := 2) rfl ?_); refine Yo ?hg (N := 2) ?hd (cs := #[.bool a0_0, .slice A0_1 l0_1.length c0_1, .slice A0_2 l0_2.length c0_2]) (t := 50) ?hr ?_; (case hd => rfl); (case hg => rfl); (case hr => exact Qa9); intro gb1088 hg w11 hbox hb; have BK1088 := Yt.mk (hbox); have GW1088 := Yt.mk ((by rw [hg]; exact (Zk (Qa0)) : w.heap.size ≤ gb1088)); have GE1088 := Yt.mk ((by rw [hg]; exact (Zk (Qa0)) : w.heap.size ≤ gb1088)); replace HB := Yt.mk (Zm (Qa0) hb); clear hb hbox hg) | ((with_reducible refine Yk (N := 3) rfl ?_); refine Yo ?hg (N := 3) ?hd (cs := #[.bool a1_0, .slice A1_1 l1_1.length c1_1, .slice A1_2 l1_2.length c1_2]) (t := 50) ?hr ?_; (case hd => rfl); (case hg => rfl); (case hr => exact Qa9); intro gb1089 hg w12 hbox hb; have BK1089 := Yt.mk (hbox); have GW1089 := Yt.mk ((by rw [hg]; exact (Zk (Qa0)) : w.heap.size ≤ gb1089)); have GE1089 := Yt.mk ((by rw [hg]; exact (Zk (Qa0)) : w.heap.size ≤ gb1089)); replace HB := Yt.mk (Zm (Qa0) hb); have NB1088_1089 := Yt.mk ((by rw [hg]; exact Nat.ne_of_lt (blk_lt (g := gb1088) (o := .cells #[.bool a0_0, .slice A0_1 l0_1.length c0_1, .slice A0_2 l0_2.length c0_2] 50 (0, 0)) (Qr12 BK1088.out)) : gb1088 ≠ gb1089)); have NB1089_1088 := Yt.mk ((by rw [hg]; exact Nat.ne_of_gt (blk_lt (g := gb1088) (o := .cells #[.bool a0_0, .slice A0_1 l0_1.length c0_1, .slice A0_2 l0_2.length c0_2] 50 (0, 0)) (Qr12 BK1088.out)) : gb1089 ≠ gb1088)); replace BK1088 := Yt.mk (Zq (g := gb1088) (o := .cells #[.bool a0_0, .slice A0_1 l0_1.length c0_1, .slice A0_2 l0_2.length c0_2] 50 (0, 0)) (Qr12 BK1088.out) hb); clear hb hbox hg) | ((with_reducible refine Yk (N := 4) rfl ?_); refine Yo ?hg (N := 4) ?hd (cs := #[.bool false, .slice none 0 0, .slice none 0 0]) (t := 50) ?hr ?_; (case hd => rfl); (case hg => rfl); (case hr => exact Qa9); intro gb1090 hg w13 hbox hb; have BK1090 := Yt.mk (hbox); have GW1090 := Yt.mk ((by rw [hg]; exact (Zk (Qa0)) : w.heap.size ≤ gb1090)); have GE1090 := Yt.mk ((by rw [hg]; exact (Zk (Qa0)) : w.heap.size ≤ gb1090)); replace HB := Yt.mk (Zm (Qa0) hb); have NB1088_1090 := Yt.mk ((by rw [hg]; exact Nat.ne_of_lt (blk_lt (g := gb1088) (o := .cells #[.bool a0_0, .slice A0_1 l0_1.length c0_1, .slice A0_2 l0_2.length c0_2] 50 (0, 0)) (Qr12 BK1088.out)) : gb1088 ≠ gb1090)); have NB1090_1088 := Yt.mk ((by rw [hg]; exact Nat.ne_of_gt (blk_lt (g := gb1088) (o := .cells #[.bool a0_0, .slice A0_1 l0_1.length c0_1, .slice A0_2 l0_2.length c0_2] 50 (0, 0)) (Qr12 BK1088.out)) : gb1090 ≠ gb1088)); replace BK1088 := Yt.mk (Zq (g := gb1088) (o := .cells #[.bool a0_0, .slice A0_1 l0_1.length c0_1, .slice A0_2 l0_2.length c0_2] 50 (0, 0)) (Qr12 BK1088.out) hb); have NB1089_1090 := Yt.mk ((by rw [hg]; exact Nat.ne_of_lt (blk_lt (g := gb1089) (o := .cells #[.bool a1_0, .slice A1_1 l1_1.length c1_1, .slice A1_2 l1_2.length c1_2] 50 (0, 0)) (Qr12 BK1089.out)) : gb1089 ≠ gb1090)); have NB1090_1089 := Yt.mk ((by rw [hg]; exact Nat.ne_of_gt (blk_lt (g := gb1089) (o := .cells #[.bool a1_0, .slice A1_1 l1_1.length c1_1, .slice A1_2 l1_2.length c1_2] 50 (0, 0)) (Qr12 BK1089.out)) : gb1090 ≠ gb1089)); replace BK1089 := Yt.mk (Zq (g := gb1089) (o := .cells #[.bool a1_0, .slice A1_1 l1_1.length c1_1, .slice A1_2 l1_2.length c1_2] 50 (0, 0)) (Qr12 BK1089.out) hb); clear hb hbox hg))
 replace BK1088 := Yt.mk (Zi BK1088.out)
 replace BK1089 := Yt.mk (Zi BK1089.out)
 replace BK1090 := Yt.mk (Zi BK1090.out)
 replace HB := Yt.mk (Zc HB.out)
 refine start_ (n := 18) (S := fun w' => w'.cell? ⟨gb1088, 0, none⟩ = some (.bool a0_0) ∧ w'.cell? ⟨gb1088, 1, none⟩ = some (.slice A0_1 l0_1.length c0_1) ∧ w'.cell? ⟨gb1088, 2, none⟩ = some (.slice A0_2 l0_2.length c0_2) ∧ w'.cell? ⟨gb1089, 0, none⟩ = some (.bool a1_0) ∧ w'.cell? ⟨gb1089, 1, none⟩ = some (.slice A1_1 l1_1.length c1_1) ∧ w'.cell? ⟨gb1089, 2, none⟩ = some (.slice A1_2 l1_2.length c1_2)) (ds := []) #[false, false, false, false, false, false, false, false, false, false, false, false, false, false, false, false, false, false] Qa8 rfl rfl ⟨(Zl BK1088.out 0).trans rfl, (Zl BK1088.out 1).trans rfl, (Zl BK1088.out 2).trans rfl, (Zl BK1089.out 0).trans rfl, (Zl BK1089.out 1).trans rfl, (Zl BK1089.out 2).trans rfl⟩ (fun hHeld => ?_); refine with_tabW ratio_add.tab1 ratio_add.bits1 (fun HT_ HW_ => ?_)
 generalize w13.drew = w14 at BK1088 BK1089 BK1090 HB hHeld ⊢
 refine pure_ (i := 0) (N := some 9) (v := ?_) (a' := ?_) #[true, false, false, false, false, false, false, false, false, false, false, false, false, false, false, false, false, false] rfl rfl (any_of HT_.out Qa8) (fun _ _ _ h => h) (Or.inl ⟨by rfl, ?_⟩) ?_ ?_
 rotate_left
 ·intro w'
  go_simp
  with_reducible rfl
 rotate_left
 ·simp only [Act.put, List.setIfInBounds_toArray, List.set_cons_zero, List.set_cons_succ, Yi, Yj]
  rfl
 refine pure_ (i := 2) (N := some 11) (v := ?_) (a' := ?_) #[true, false, true, false, false, false, false, false, false, false, false, false, false, false, false, false, false, false] rfl rfl (any_of HT_.out Qa8) (fun _ _ _ h => h) (Or.inl ⟨by rfl, ?_⟩) ?_ ?_
 rotate_left
 ·intro w'
  go_simp
  with_reducible rfl
 rotate_left
 ·simp only [Act.put, List.setIfInBounds_toArray, List.set_cons_zero, List.set_cons_succ, Yi, Yj]
  rfl
 refine pure_ (i := 5) (N := some 14) (v := ?_) (a' := ?_) #[true, false, true, false, false, true, false, false, false, false, false, false, false, false, false, false, false, false] rfl rfl (any_of HT_.out Qa8) (fun _ _ _ h => h) (Or.inl ⟨by rfl, ?_⟩) ?_ ?_
 rotate_left
 ·intro w'
  go_simp
  with_reducible rfl
 rotate_left
 ·simp only [Act.put, List.setIfInBounds_toArray, List.set_cons_zero, List.set_cons_succ, Yi, Yj]
  rfl
 refine pure_ (i := 7) (N := some 16) (v := ?_) (a' := ?_) #[true, false, true, false, false, true, false, true, false, false, false, false, false, false, false, false, false, false] rfl rfl (any_of HT_.out Qa8) (fun _ _ _ h => h) (Or.inl ⟨by rfl, ?_⟩) ?_ ?_
 rotate_left
 ·intro w'
  go_simp
  with_reducible rfl
 rotate_left
 ·simp only [Act.put, List.setIfInBounds_toArray, List.set_cons_zero, List.set_cons_succ, Yi, Yj]
  rfl
 refine pure_ (i := 10) (N := some 19) (v := ?_) (a' := ?_) #[true, false, true, false, false, true, false, true, false, false, true, false, false, false, false, false, false, false] rfl rfl (any_of HT_.out Qa8) (fun _ _ _ h => h) (Or.inl ⟨by rfl, ?_⟩) ?_ ?_
 rotate_left
 ·intro w'
  go_simp
  with_reducible rfl
 rotate_left
 ·simp only [Act.put, List.setIfInBounds_toArray, List.set_cons_zero, List.set_cons_succ, Yi, Yj]
  rfl
 refine pure_ (i := 12) (N := some 21) (v := ?_) (a' := ?_) #[true, false, true, false, false, true, false, true, false, false, true, false, true, false, false, false, false, false] rfl rfl (any_of HT_.out Qa8) (fun _ _ _ h => h) (Or.inl ⟨by rfl, ?_⟩) ?_ ?_
 rotate_left
 ·intro w'
  go_simp
  with_reducible rfl
 rotate_left
 ·simp only [Act.put, List.setIfInBounds_toArray, List.set_cons_zero, List.set_cons_succ, Yi, Yj]
  rfl
 refine take_ (i := 1) (N := some 10) (v := ?_) (a' := ?_) #[true, true, true, false, false, true, false, true, false, false, true, false, true, false, false, false, false, false] rfl rfl (take_ofW HT_.out HW_.out Qa8) (fun _ _ _ h => h) (Or.inl ⟨by rfl, ?_⟩) hHeld ?_ ?_
 rotate_left
 ·rintro w' ⟨s0, s1, s2, s3, s4, s5⟩
  go_simp
  with_reducible rfl
 rotate_left
 ·simp only [Act.put, List.setIfInBounds_toArray, List.set_cons_zero, List.set_cons_succ, Yi, Yj]
  rfl
 refine take_ (i := 3) (N := some 12) (v := ?_) (a' := ?_) #[true, true, true, true, false, true, false, true, false, false, true, false, true, false, false, false, false, false] rfl rfl (take_ofW HT_.out HW_.out Qa8) (fun _ _ _ h => h) (Or.inl ⟨by rfl, ?_⟩) hHeld ?_ ?_
 rotate_left
 ·rintro w' ⟨s0, s1, s2, s3, s4, s5⟩
  go_simp
  with_reducible rfl
 rotate_left
 ·simp only [Act.put, List.setIfInBounds_toArray, List.set_cons_zero, List.set_cons_succ, Yi, Yj]
  rfl
 refine take_ (i := 6) (N := some 15) (v := ?_) (a' := ?_) #[true, true, true, true, false, true, true, true, false, false, true, false, true, false, false, false, false, false] rfl rfl (take_ofW HT_.out HW_.out Qa8) (fun _ _ _ h => h) (Or.inl ⟨by rfl, ?_⟩) hHeld ?_ ?_
 rotate_left
 ·rintro w' ⟨s0, s1, s2, s3, s4, s5⟩
  go_simp
  with_reducible rfl
 rotate_left
 ·simp only [Act.put, List.setIfInBounds_toArray, List.set_cons_zero, List.set_cons_succ, Yi, Yj]
  rfl
 refine take_ (i := 8) (N := some 17) (v := ?_) (a' := ?_) #[true, true, true, true, false, true, true, true, true, false, true, false, true, false, false, false, false, false] rfl rfl (take_ofW HT_.out HW_.out Qa8) (fun _ _ _ h => h) (Or.inl ⟨by rfl, ?_⟩) hHeld ?_ ?_
 rotate_left
 ·rintro w' ⟨s0, s1, s2, s3, s4, s5⟩
  go_simp
  with_reducible rfl
 rotate_left
 ·simp only [Act.put, List.setIfInBounds_toArray, List.set_cons_zero, List.set_cons_succ, Yi, Yj]
  rfl
 refine take_ (i := 11) (N := some 20) (v := ?_) (a' := ?_) #[true, true, true, true, false, true, true, true, true, false, true, true, true, false, false, false, false, false] rfl rfl (take_ofW HT_.out HW_.out Qa8) (fun _ _ _ h => h) (Or.inl ⟨by rfl, ?_⟩) hHeld ?_ ?_
 rotate_left
 ·rintro w' ⟨s0, s1, s2, s3, s4, s5⟩
  go_simp
  with_reducible rfl
 rotate_left
 ·simp only [Act.put, List.setIfInBounds_toArray, List.set_cons_zero, List.set_cons_succ, Yi, Yj]
  rfl
 refine take_ (i := 13) (N := some 22) (v := ?_) (a' := ?_) #[true, true, true, true, false, true, true, true, true, false, true, true, true, true, false, false, false, false] rfl rfl (take_ofW HT_.out HW_.out Qa8) (fun _ _ _ h => h) (Or.inl ⟨by rfl, ?_⟩) hHeld ?_ ?_
 rotate_left
 ·rintro w' ⟨s0, s1, s2, s3, s4, s5⟩
  go_simp
  with_reducible rfl
 rotate_left
 ·simp only [Act.put, List.setIfInBounds_toArray, List.set_cons_zero, List.set_cons_succ, Yi, Yj]
  rfl
 refine one_ (i := 4) (N := some 13) #[true, true, true, true, true, true, true, true, true, false, true, true, true, true, false, false, false, false] rfl rfl (one_of HT_.out Qa8) (by decide) (fun K hK => ?_)
 refine goes_ Try.func81 Qa8 rfl #[.slice A0_1 l0_1.length c0_1, .slice A1_2 l1_2.length c1_2] (by rfl) rfl rfl Qa2 ?_
 with_reducible refine (nats_Mul.calls k _ _ l0_1 _ _ l1_2 t1091 _ ?side1 ?side2 ?side3 ?side4 A3.out).mono ?_
 (case side1 => exact Qe11 (Kd.Ys HR0_1.out HB.out))
 (case side2 => exact HC0_1.out)
 (case side3 => exact Qe11 (Kd.Ys HR1_2.out HB.out))
 (case side4 => exact HC1_2.out)
 rintro e w15 ⟨v1092, rfl, ho0, hb⟩
 refine ⟨_, rfl, ?_⟩
 have HO1093 := Yt.mk (Kd.Yb ho0 (Zk (Qa0)))
 replace BK1088 := Yt.mk (Zq (g := gb1088) (o := .cells #[.bool a0_0, .slice A0_1 l0_1.length c0_1, .slice A0_2 l0_2.length c0_2] 50 (0, 0)) (Qr12 BK1088.out) hb)
 replace BK1089 := Yt.mk (Zq (g := gb1089) (o := .cells #[.bool a1_0, .slice A1_1 l1_1.length c1_1, .slice A1_2 l1_2.length c1_2] 50 (0, 0)) (Qr12 BK1089.out) hb)
 replace BK1090 := Yt.mk (Zq (g := gb1090) (o := .cells #[.bool false, .slice none 0 0, .slice none 0 0] 50 (0, 0)) (Qr12 BK1090.out) hb)
 replace HB := Yt.mk (Zm (Qa0) hb)
 (try clear hb)
 (try clear hb2)
 (try clear hk)
 (try clear hi)
 (try clear ho0)
 refine hK.out _ _ ⟨(Zl BK1088.out 0).trans rfl, (Zl BK1088.out 1).trans rfl, (Zl BK1088.out 2).trans rfl, (Zl BK1089.out 0).trans rfl, (Zl BK1089.out 1).trans rfl, (Zl BK1089.out 2).trans rfl⟩ (fun hHeld => ?_)
 clear hK K
 refine norm_ (a' := ?_) ?_ ?_
 rotate_left
 ·show Act.put _ (some 13) _ = _
  simp only [Act.put, List.setIfInBounds_toArray, List.set_cons_zero, List.set_cons_succ, Yi, Yj]
  rfl
 refine one_ (i := 9) (N := some 18) #[true, true, true, true, true, true, true, true, true, true, true, true, true, true, false, false, false, false] rfl rfl (one_of HT_.out Qa8) (by decide) (fun K hK => ?_)
 refine goes_ Try.func81 Qa8 rfl #[.slice A1_1 l1_1.length c1_1, .slice A0_2 l0_2.length c0_2] (by rfl) rfl rfl Qa2 ?_
 with_reducible refine (nats_Mul.calls k _ _ l1_1 _ _ l0_2 t1094 _ ?side1 ?side2 ?side3 ?side4 A4.out).mono ?_
 (case side1 => exact Qe11 (Kd.Ys HR1_1.out HB.out))
 (case side2 => exact HC1_1.out)
 (case side3 => exact Qe11 (Kd.Ys HR0_2.out HB.out))
 (case side4 => exact HC0_2.out)
 rintro e w16 ⟨v1095, rfl, ho0, hb⟩
 refine ⟨_, rfl, ?_⟩
 have HO1096 := Yt.mk (Kd.Yb (Kd.Ya ho0 (Kd.R_lt (Qr1 HO1093.out))) (Zk (Qa0)))
 replace HO1093 := Yt.mk (Kd.Yf (Qr1 HO1093.out) (Kd.Zw ho0) hb)
 replace BK1088 := Yt.mk (Zq (g := gb1088) (o := .cells #[.bool a0_0, .slice A0_1 l0_1.length c0_1, .slice A0_2 l0_2.length c0_2] 50 (0, 0)) (Qr12 BK1088.out) hb)
 replace BK1089 := Yt.mk (Zq (g := gb1089) (o := .cells #[.bool a1_0, .slice A1_1 l1_1.length c1_1, .slice A1_2 l1_2.length c1_2] 50 (0, 0)) (Qr12 BK1089.out) hb)
 replace BK1090 := Yt.mk (Zq (g := gb1090) (o := .cells #[.bool false, .slice none 0 0, .slice none 0 0] 50 (0, 0)) (Qr12 BK1090.out) hb)
 replace HB := Yt.mk (Zm (Qa0) hb)
 (try clear hb)
 (try clear hb2)
 (try clear hk)
 (try clear hi)
 (try clear ho0)
 refine hK.out _ _ ⟨(Zl BK1088.out 0).trans rfl, (Zl BK1088.out 1).trans rfl, (Zl BK1088.out 2).trans rfl, (Zl BK1089.out 0).trans rfl, (Zl BK1089.out 1).trans rfl, (Zl BK1089.out 2).trans rfl⟩ (fun hHeld => ?_)
 clear hK K
 refine norm_ (a' := ?_) ?_ ?_
 rotate_left
 ·show Act.put _ (some 18) _ = _
  simp only [Act.put, List.setIfInBounds_toArray, List.set_cons_zero, List.set_cons_succ, Yi, Yj]
  rfl
 refine one_ (i := 14) (N := some 23) #[true, true, true, true, true, true, true, true, true, true, true, true, true, true, true, false, false, false] rfl rfl (one_of HT_.out Qa8) (by decide) (fun K hK => ?_)
 refine goes_ Try.func81 Qa8 rfl #[.slice A0_2 l0_2.length c0_2, .slice A1_2 l1_2.length c1_2] (by rfl) rfl rfl Qa2 ?_
 with_reducible refine (nats_Mul.calls k _ _ l0_2 _ _ l1_2 t1097 _ ?side1 ?side2 ?side3 ?side4 A5.out).mono ?_
 (case side1 => exact Qe11 (Kd.Ys HR0_2.out HB.out))
 (case side2 => exact HC0_2.out)
 (case side3 => exact Qe11 (Kd.Ys HR1_2.out HB.out))
 (case side4 => exact HC1_2.out)
 rintro e w17 ⟨v1098, rfl, ho0, hb⟩
 refine ⟨_, rfl, ?_⟩
 have HO1099 := Yt.mk (Kd.Yb (Kd.Ya (Kd.Ya ho0 (Kd.R_lt (Qr1 HO1093.out))) (Kd.R_lt (Qr1 HO1096.out))) (Zk (Qa0)))
 replace HO1093 := Yt.mk (Kd.Yf (Qr1 HO1093.out) (Kd.Zw ho0) hb)
 replace HO1096 := Yt.mk (Kd.Yf (Qr1 HO1096.out) (Kd.Zw ho0) hb)
 replace BK1088 := Yt.mk (Zq (g := gb1088) (o := .cells #[.bool a0_0, .slice A0_1 l0_1.length c0_1, .slice A0_2 l0_2.length c0_2] 50 (0, 0)) (Qr12 BK1088.out) hb)
 replace BK1089 := Yt.mk (Zq (g := gb1089) (o := .cells #[.bool a1_0, .slice A1_1 l1_1.length c1_1, .slice A1_2 l1_2.length c1_2] 50 (0, 0)) (Qr12 BK1089.out) hb)
 replace BK1090 := Yt.mk (Zq (g := gb1090) (o := .cells #[.bool false, .slice none 0 0, .slice none 0 0] 50 (0, 0)) (Qr12 BK1090.out) hb)
 replace HB := Yt.mk (Zm (Qa0) hb)
 (try clear hb)
 (try clear hb2)
 (try clear hk)
 (try clear hi)
 (try clear ho0)
 refine hK.out _ _ ⟨(Zl BK1088.out 0).trans rfl, (Zl BK1088.out 1).trans rfl, (Zl BK1088.out 2).trans rfl, (Zl BK1089.out 0).trans rfl, (Zl BK1089.out 1).trans rfl, (Zl BK1089.out 2).trans rfl⟩ (fun hHeld => ?_)
 clear hK K
 refine norm_ (a' := ?_) ?_ ?_
 rotate_left
 ·show Act.put _ (some 23) _ = _
  simp only [Act.put, List.setIfInBounds_toArray, List.set_cons_zero, List.set_cons_succ, Yi, Yj]
  rfl
 refine pure_ (i := 15) (N := some 6) (v := ?_) (a' := ?_) #[true, true, true, true, true, true, true, true, true, true, true, true, true, true, true, true, false, false] rfl rfl (any_of HT_.out Qa8) (fun _ _ _ h => h) (Or.inl ⟨by rfl, ?_⟩) ?_ ?_
 rotate_left
 ·intro w'
  go_simp
  with_reducible rfl
 rotate_left
 ·simp only [Act.put, List.setIfInBounds_toArray, List.set_cons_zero, List.set_cons_succ, Yi, Yj]
  rfl
 refine pure_ (i := 16) (N := some 7) (v := ?_) (a' := ?_) #[true, true, true, true, true, true, true, true, true, true, true, true, true, true, true, true, true, false] rfl rfl (any_of HT_.out Qa8) (fun _ _ _ h => h) (Or.inl ⟨by rfl, ?_⟩) ?_ ?_
 rotate_left
 ·intro w'
  go_simp
  with_reducible rfl
 rotate_left
 ·simp only [Act.put, List.setIfInBounds_toArray, List.set_cons_zero, List.set_cons_succ, Yi, Yj]
  rfl
 refine pure_ (i := 17) (N := some 8) (v := ?_) (a' := ?_) #[true, true, true, true, true, true, true, true, true, true, true, true, true, true, true, true, true, true] rfl rfl (any_of HT_.out Qa8) (fun _ _ _ h => h) (Or.inl ⟨by rfl, ?_⟩) ?_ ?_
 rotate_left
 ·intro w'
  go_simp
  with_reducible rfl
 rotate_left
 ·simp only [Act.put, List.setIfInBounds_toArray, List.set_cons_zero, List.set_cons_succ, Yi, Yj]
  rfl
 refine done_ (done_of HT_.out Qa8) ?_
 have hnb18 := NB1088_1089.out
 have hnc18 := NB1089_1088.out
 have hnb19 := NB1088_1090.out
 have hnc19 := NB1090_1088.out
 have hcz20_0 : w17.cell? ⟨gb1088, 0, none⟩ = some (.bool a0_0) := (Zl BK1088.out 0).trans rfl
 have hcz20_1 : w17.cell? ⟨gb1088, 1, none⟩ = some (.slice A0_1 l0_1.length c0_1) := (Zl BK1088.out 1).trans rfl
 have hcz20_2 : w17.cell? ⟨gb1088, 2, none⟩ = some (.slice A0_2 l0_2.length c0_2) := (Zl BK1088.out 2).trans rfl
 have hfz20_0 := Zn BK1088.out 0
 have hfz20_1 := Zn BK1088.out 1
 have hfz20_2 := Zn BK1088.out 2
 have hnb21 := NB1089_1090.out
 have hnc21 := NB1090_1089.out
 have hcz22_0 : w17.cell? ⟨gb1089, 0, none⟩ = some (.bool a1_0) := (Zl BK1089.out 0).trans rfl
 have hcz22_1 : w17.cell? ⟨gb1089, 1, none⟩ = some (.slice A1_1 l1_1.length c1_1) := (Zl BK1089.out 1).trans rfl
 have hcz22_2 : w17.cell? ⟨gb1089, 2, none⟩ = some (.slice A1_2 l1_2.length c1_2) := (Zl BK1089.out 2).trans rfl
 have hfz22_0 := Zn BK1089.out 0
 have hfz22_1 := Zn BK1089.out 1
 have hfz22_2 := Zn BK1089.out 2
 obtain ⟨Ao23, co23, eo23⟩ := Kd.Zx HO1093.out
 subst eo23
 obtain ⟨Ao24, co24, eo24⟩ := Kd.Zx HO1096.out
 subst eo24
 try go_wp2_with (first | ((with_reducible refine Zr (f := 89) rfl ?_); refine Yg (some 40) rfl rfl Try.func89 Qa8 rfl #[.slice Ao23 t1091.length co23, .slice Ao24 t1094.length co24] rfl Qa2 ?_; (with_reducible refine (nats_Cmp.calls k _ _ t1091 _ _ t1094 t1100 _ ?side1 ?side2 ?side3 ?side4 A7.out).mono ?_); (case side1 => exact Qe11 (Kd.Zs HO1093.out).2.2); (case side2 => exact (Kd.Zs HO1093.out).2.1); (case side3 => exact Qe11 (Kd.Zs HO1096.out).2.2); (case side4 => exact (Kd.Zs HO1096.out).2.1); rintro e w25 ⟨rfl, hb⟩; refine ⟨_, rfl, ?_⟩; replace HO1093 := Yt.mk (Kd.Yd (Qr1 HO1093.out) hb); replace HO1096 := Yt.mk (Kd.Yd (Qr1 HO1096.out) hb); replace HO1099 := Yt.mk (Kd.Yd (Qr1 HO1099.out) hb); replace BK1088 := Yt.mk (Zq (g := gb1088) (o := .cells #[.bool a0_0, .slice A0_1 l0_1.length c0_1, .slice A0_2 l0_2.length c0_2] 50 (0, 0)) (Qr12 BK1088.out) hb); replace BK1089 := Yt.mk (Zq (g := gb1089) (o := .cells #[.bool a1_0, .slice A1_1 l1_1.length c1_1, .slice A1_2 l1_2.length c1_2] 50 (0, 0)) (Qr12 BK1089.out) hb); replace BK1090 := Yt.mk (Zq (g := gb1090) (o := .cells #[.bool false, .slice none 0 0, .slice none 0 0] 50 (0, 0)) (Qr12 BK1090.out) hb); replace HB := Yt.mk (Zm (Qa0) hb); (try clear hb)))
 replace HO1093 := Yt.mk (Kd.Zj HO1093.out)
 replace HO1096 := Yt.mk (Kd.Zj HO1096.out)
 replace HO1099 := Yt.mk (Kd.Zj HO1099.out)
 replace BK1088 := Yt.mk (Zi BK1088.out)
 replace BK1089 := Yt.mk (Zi BK1089.out)
 replace BK1090 := Yt.mk (Zi BK1090.out)
 replace HB := Yt.mk (Zc HB.out)
 refine start_ (n := 11) (S := fun w' => w'.cell? ⟨gb1088, 0, none⟩ = some (.bool a0_0) ∧ w'.cell? ⟨gb1088, 1, none⟩ = some (.slice A0_1 l0_1.length c0_1) ∧ w'.cell? ⟨gb1088, 2, none⟩ = some (.slice A0_2 l0_2.length c0_2)) (ds := []) #[false, false, false, false, false, false, false, false, false, false, false] Qa8 rfl rfl ⟨(Zl BK1088.out 0).trans rfl, (Zl BK1088.out 1).trans rfl, (Zl BK1088.out 2).trans rfl⟩ (fun hHeld => ?_); refine with_tabW ratio_add.tab6 ratio_add.bits6 (fun HT_ HW_ => ?_)
 generalize w25.drew = w26 at HO1093 HO1096 HO1099 BK1088 BK1089 BK1090 HB hHeld ⊢
 refine pure_ (i := 0) (N := some 51) (v := ?_) (a' := ?_) #[true, false, false, false, false, false, false, false, false, false, false] rfl rfl (any_of HT_.out Qa8) (fun _ _ _ h => h) (Or.inl ⟨by rfl, ?_⟩) ?_ ?_
 rotate_left
 ·intro w'
  go_simp
  with_reducible rfl
 rotate_left
 ·simp only [Act.put, List.setIfInBounds_toArray, List.set_cons_zero, List.set_cons_succ, Yi, Yj]
  rfl
 refine pure_ (i := 2) (N := some 53) (v := ?_) (a' := ?_) #[true, false, true, false, false, false, false, false, false, false, false] rfl rfl (any_of HT_.out Qa8) (fun _ _ _ h => h) (Or.inl ⟨by rfl, ?_⟩) ?_ ?_
 rotate_left
 ·intro w'
  go_simp
  with_reducible rfl
 rotate_left
 ·simp only [Act.put, List.setIfInBounds_toArray, List.set_cons_zero, List.set_cons_succ, Yi, Yj]
  rfl
 refine pure_ (i := 3) (N := some 54) (v := ?_) (a' := ?_) #[true, false, true, true, false, false, false, false, false, false, false] rfl rfl (any_of HT_.out Qa8) (fun _ _ _ h => h) (Or.inl ⟨by rfl, ?_⟩) ?_ ?_
 rotate_left
 ·intro w'
  go_simp
  with_reducible rfl
 rotate_left
 ·simp only [Act.put, List.setIfInBounds_toArray, List.set_cons_zero, List.set_cons_succ, Yi, Yj]
  rfl
 refine pure_ (i := 5) (N := some 56) (v := ?_) (a' := ?_) #[true, false, true, true, false, true, false, false, false, false, false] rfl rfl (any_of HT_.out Qa8) (fun _ _ _ h => h) (Or.inl ⟨by rfl, ?_⟩) ?_ ?_
 rotate_left
 ·intro w'
  go_simp
  with_reducible rfl
 rotate_left
 ·simp only [Act.put, List.setIfInBounds_toArray, List.set_cons_zero, List.set_cons_succ, Yi, Yj]
  rfl
 refine take_ (i := 1) (N := some 52) (v := ?_) (a' := ?_) #[true, true, true, true, false, true, false, false, false, false, false] rfl rfl (take_ofW HT_.out HW_.out Qa8) (fun _ _ _ h => h) (Or.inl ⟨by rfl, ?_⟩) hHeld ?_ ?_
 rotate_left
 ·rintro w' ⟨s0, s1, s2⟩
  go_simp
  with_reducible rfl
 rotate_left
 ·simp only [Act.put, List.setIfInBounds_toArray, List.set_cons_zero, List.set_cons_succ, Yi, Yj]
  rfl
 refine one_ (i := 4) (N := some 55) #[true, true, true, true, true, true, false, false, false, false, false] rfl rfl (one_of HT_.out Qa8) (by decide) (fun K hK => ?_)
 refine goes_ Try.func94 Qa8 rfl #[.slice Ao23 t1091.length co23, .slice Ao24 t1094.length co24] (by rfl) rfl rfl Qa2 ?_
 with_reducible refine (nats_Sub.calls k _ _ t1091 _ _ t1094 t1101 _ ?side1 ?side2 ?side3 ?side4 A9.out).mono ?_
 (case side1 => exact Qe11 (Kd.Zs HO1093.out).2.2)
 (case side2 => exact (Kd.Zs HO1093.out).2.1)
 (case side3 => exact Qe11 (Kd.Zs HO1096.out).2.2)
 (case side4 => exact (Kd.Zs HO1096.out).2.1)
 rintro e w27 ⟨v1102, rfl, ho0, hb⟩
 refine ⟨_, rfl, ?_⟩
 have HO1103 := Yt.mk (Kd.Yb (Kd.Ya (Kd.Ya (Kd.Ya ho0 (Kd.R_lt (Qr1 HO1093.out))) (Kd.R_lt (Qr1 HO1096.out))) (Kd.R_lt (Qr1 HO1099.out))) (Zk (Qa0)))
 replace HO1093 := Yt.mk (Kd.Yf (Qr1 HO1093.out) (Kd.Zw ho0) hb)
 replace HO1096 := Yt.mk (Kd.Yf (Qr1 HO1096.out) (Kd.Zw ho0) hb)
 replace HO1099 := Yt.mk (Kd.Yf (Qr1 HO1099.out) (Kd.Zw ho0) hb)
 replace BK1088 := Yt.mk (Zq (g := gb1088) (o := .cells #[.bool a0_0, .slice A0_1 l0_1.length c0_1, .slice A0_2 l0_2.length c0_2] 50 (0, 0)) (Qr12 BK1088.out) hb)
 replace BK1089 := Yt.mk (Zq (g := gb1089) (o := .cells #[.bool a1_0, .slice A1_1 l1_1.length c1_1, .slice A1_2 l1_2.length c1_2] 50 (0, 0)) (Qr12 BK1089.out) hb)
 replace BK1090 := Yt.mk (Zq (g := gb1090) (o := .cells #[.bool false, .slice none 0 0, .slice none 0 0] 50 (0, 0)) (Qr12 BK1090.out) hb)
 replace HB := Yt.mk (Zm (Qa0) hb)
 (try clear hb)
 (try clear hb2)
 (try clear hk)
 (try clear hi)
 (try clear ho0)
 obtain ⟨Ao28, co28, eo28⟩ := Kd.Zx HO1103.out
 (first | subst eo28 | (injection eo28 with f1_ f2_ f3_; have f4_ := f1_.symm; have f5_ := f3_.symm; clear f1_ f2_ f3_; subst f4_; subst f5_))
 obtain ⟨Ao29, co29, eo29⟩ := Kd.Zx HO1099.out
 (first | subst eo29 | (injection eo29 with f1_ f2_ f3_; have f4_ := f1_.symm; have f5_ := f3_.symm; clear f1_ f2_ f3_; subst f4_; subst f5_))
 refine hK.out _ _ ⟨(Zl BK1088.out 0).trans rfl, (Zl BK1088.out 1).trans rfl, (Zl BK1088.out 2).trans rfl⟩ (fun hHeld => ?_)
 clear hK K
 refine norm_ (a' := ?_) ?_ ?_
 rotate_left
 ·show Act.put _ (some 55) _ = _
  simp only [Act.put, List.setIfInBounds_toArray, List.set_cons_zero, List.set_cons_succ, Yi, Yj]
  rfl
 refine one_ (i := 6) (N := some 57) #[true, true, true, true, true, true, true, false, false, false, false] rfl rfl (one_of HT_.out Qa8) (by decide) (fun K hK => ?_)
 refine goes_ Try.func48 Qa8 rfl #[.bool a0_0, .slice Ao28 t1101.length co28, .slice Ao29 t1097.length co29] (by rfl) rfl rfl Qa2 ?_
 with_reducible refine (ratio_Make.calls k a0_0 _ _ t1101 _ _ t1097 t1104 t1105 t1108 t1111 _ ?side1 ?side2 ?side3 ?side4 A10.out).mono ?_
 (case side1 => exact Qe11 (Kd.Zs HO1103.out).2.2)
 (case side2 => exact (Kd.Zs HO1103.out).2.1)
 (case side3 => exact Qe11 (Kd.Zs HO1099.out).2.2)
 (case side4 => exact (Kd.Zs HO1099.out).2.1)
 rintro e w30 ⟨v1106, v1109, rfl, ho0, ho1, hb⟩
 refine ⟨_, rfl, ?_⟩
 have HO1107 := Yt.mk (Kd.Yb (Kd.Ya (Kd.Ya (Kd.Ya (Kd.Ya ho0 (Kd.R_lt (Qr1 HO1093.out))) (Kd.R_lt (Qr1 HO1096.out))) (Kd.R_lt (Qr1 HO1099.out))) (Kd.R_lt (Qr1 HO1103.out))) (Zk (Qa0)))
 have HO1110 := Yt.mk (Kd.Yb (Kd.Ya (Kd.Ya (Kd.Ya (Kd.Ya ho1 (Kd.R_lt (Qr1 HO1093.out))) (Kd.R_lt (Qr1 HO1096.out))) (Kd.R_lt (Qr1 HO1099.out))) (Kd.R_lt (Qr1 HO1103.out))) (Zk (Qa0)))
 replace HO1093 := Yt.mk (Kd.Zv (Kd.Yl (Kd.Yl (Kd.R_old (Qr1 HO1093.out) hb) (Kd.Zw ho0)) (Kd.Zw ho1)) (fun _ h_ => h_.1))
 replace HO1096 := Yt.mk (Kd.Zv (Kd.Yl (Kd.Yl (Kd.R_old (Qr1 HO1096.out) hb) (Kd.Zw ho0)) (Kd.Zw ho1)) (fun _ h_ => h_.1))
 replace HO1099 := Yt.mk (Kd.Zv (Kd.Yl (Kd.Yl (Kd.R_old (Qr1 HO1099.out) hb) (Kd.Zw ho0)) (Kd.Zw ho1)) (fun _ h_ => h_.1))
 replace HO1103 := Yt.mk (Kd.Zv (Kd.Yl (Kd.Yl (Kd.R_old (Qr1 HO1103.out) hb) (Kd.Zw ho0)) (Kd.Zw ho1)) (fun _ h_ => h_.1))
 replace BK1088 := Yt.mk (Zq (g := gb1088) (o := .cells #[.bool a0_0, .slice A0_1 l0_1.length c0_1, .slice A0_2 l0_2.length c0_2] 50 (0, 0)) (Qr12 BK1088.out) hb)
 replace BK1089 := Yt.mk (Zq (g := gb1089) (o := .cells #[.bool a1_0, .slice A1_1 l1_1.length c1_1, .slice A1_2 l1_2.length c1_2] 50 (0, 0)) (Qr12 BK1089.out) hb)
 replace BK1090 := Yt.mk (Zq (g := gb1090) (o := .cells #[.bool false, .slice none 0 0, .slice none 0 0] 50 (0, 0)) (Qr12 BK1090.out) hb)
 replace HB := Yt.mk (Zm (Qa0) hb)
 (try clear hb)
 (try clear hb2)
 (try clear hk)
 (try clear hi)
 (try clear ho0)
 (try clear ho1)
 obtain ⟨Ao32, co32, eo32⟩ := Kd.Zx HO1107.out
 (first | subst eo32 | (injection eo32 with f1_ f2_ f3_; have f4_ := f1_.symm; have f5_ := f3_.symm; clear f1_ f2_ f3_; subst f4_; subst f5_))
 obtain ⟨Ao34, co34, eo34⟩ := Kd.Zx HO1110.out
 (first | subst eo34 | (injection eo34 with f1_ f2_ f3_; have f4_ := f1_.symm; have f5_ := f3_.symm; clear f1_ f2_ f3_; subst f4_; subst f5_))
 refine hK.out _ _ ⟨(Zl BK1088.out 0).trans rfl, (Zl BK1088.out 1).trans rfl, (Zl BK1088.out 2).trans rfl⟩ (fun hHeld => ?_)
 clear hK K
 refine norm_ (a' := ?_) ?_ ?_
 rotate_left
 ·show Act.put _ (some 57) _ = _
  simp only [Act.put, List.setIfInBounds_toArray, List.set_cons_zero, List.set_cons_succ, Yi, Yj]
  rfl
 refine pure_ (i := 7) (N := some 58) (v := ?_) (a' := ?_) #[true, true, true, true, true, true, true, true, false, false, false] rfl rfl (any_of HT_.out Qa8) (fun _ _ _ h => h) (Or.inl ⟨by rfl, ?_⟩) ?_ ?_
 rotate_left
 ·intro w'
  go_simp
  with_reducible rfl
 rotate_left
 ·simp only [Act.put, List.setIfInBounds_toArray, List.set_cons_zero, List.set_cons_succ, Yi, Yj]
  rfl
 refine pure_ (i := 8) (N := some 59) (v := ?_) (a' := ?_) #[true, true, true, true, true, true, true, true, true, false, false] rfl rfl (any_of HT_.out Qa8) (fun _ _ _ h => h) (Or.inl ⟨by rfl, ?_⟩) ?_ ?_
 rotate_left
 ·intro w'
  go_simp
  with_reducible rfl
 rotate_left
 ·simp only [Act.put, List.setIfInBounds_toArray, List.set_cons_zero, List.set_cons_succ, Yi, Yj]
  rfl
 refine one_ (i := 9) (N := none) #[true, true, true, true, true, true, true, true, true, true, false] rfl rfl (one_of HT_.out Qa8) (by decide) (fun K hK => ?_)
 have hs31 : w30.cell? ⟨gb1090, 0, none⟩ = some (.bool false) := (Zl BK1090.out 0).trans rfl
 have hfs31 := Zn BK1090.out 0
 have hns31_0 := NB1088_1090.out
 have hns31_1 := NB1089_1090.out
 have hms31_0 := NB1090_1088.out
 have hms31_1 := NB1090_1089.out
 have hs33 : w30.cell? ⟨gb1090, 1, none⟩ = some (.slice none 0 0) := (Zl BK1090.out 1).trans rfl
 have hfs33 := Zn BK1090.out 1
 have hns33_0 := NB1088_1090.out
 have hns33_1 := NB1089_1090.out
 have hms33_0 := NB1090_1088.out
 have hms33_1 := NB1090_1089.out
 have hs35 : w30.cell? ⟨gb1090, 2, none⟩ = some (.slice none 0 0) := (Zl BK1090.out 2).trans rfl
 have hfs35 := Zn BK1090.out 2
 have hns35_0 := NB1088_1090.out
 have hns35_1 := NB1089_1090.out
 have hms35_0 := NB1090_1088.out
 have hms35_1 := NB1090_1089.out
 refine skip_ (w1 := ?_) (by rfl) rfl ?_ ?_
 rotate_left
 ·go_simp
  rfl
 refine hK.out _ _ ⟨((cell_far (p := ⟨gb1090, _, none⟩) NB1088_1090.out _).trans (((cell_far (p := ⟨gb1090, _, none⟩) NB1088_1090.out _).trans (((cell_far (p := ⟨gb1090, _, none⟩) NB1088_1090.out _).trans (hHeld.1)))))), ((cell_far (p := ⟨gb1090, _, none⟩) NB1088_1090.out _).trans (((cell_far (p := ⟨gb1090, _, none⟩) NB1088_1090.out _).trans (((cell_far (p := ⟨gb1090, _, none⟩) NB1088_1090.out _).trans (hHeld.2.1)))))), ((cell_far (p := ⟨gb1090, _, none⟩) NB1088_1090.out _).trans (((cell_far (p := ⟨gb1090, _, none⟩) NB1088_1090.out _).trans (((cell_far (p := ⟨gb1090, _, none⟩) NB1088_1090.out _).trans (hHeld.2.2))))))⟩ (fun hHeld => ?_)
 clear hK K
 refine pure_ (i := 10) (N := some 5) (v := ?_) (a' := ?_) #[true, true, true, true, true, true, true, true, true, true, true] rfl rfl (any_of HT_.out Qa8) (fun _ _ _ h => h) (Or.inl ⟨by rfl, ?_⟩) ?_ ?_
 rotate_left
 ·intro w'
  go_simp
  with_reducible rfl
 rotate_left
 ·simp only [Act.put, List.setIfInBounds_toArray, List.set_cons_zero, List.set_cons_succ, Yi, Yj]
  rfl
 refine done_ (done_of HT_.out Qa8) ?_
 try go_wp2
 refine bodyPost_ret (results_ct rfl _ _ gb1090 50 #[.bool t1104, .slice Ao32 t1105.length co32, .slice Ao34 t1108.length co34] (0, 0) _ rfl (by (with_reducible repeat (first | refine Zg ?_ _ | refine Zi ?_ | refine Zh ?_ _)); refine Ym (cs := #[.bool t1104, .slice Ao32 t1105.length co32, .slice none 0 0]) ?_ 2 _ rfl; (with_reducible repeat (first | refine Zg ?_ _ | refine Zi ?_ | refine Zh ?_ _)); refine Ym (cs := #[.bool t1104, .slice none 0 0, .slice none 0 0]) ?_ 1 _ rfl; (with_reducible repeat (first | refine Zg ?_ _ | refine Zi ?_ | refine Zh ?_ _)); refine Ym (cs := #[.bool false, .slice none 0 0, .slice none 0 0]) ?_ 0 _ rfl; (with_reducible repeat (first | refine Zg ?_ _ | refine Zi ?_ | refine Zh ?_ _)); exact BK1090.out) Try.underlying50 rfl Qa8) rfl ?_
 exact ⟨_, _, Qa4, by (with_reducible repeat (first | apply Kd.Zf | apply Kd.Ze | apply Kd.Zj)); exact Kd.Zv (Kd.Yh (p := ⟨gb1090, 2, none⟩) (Kd.Yh (p := ⟨gb1090, 1, none⟩) (Kd.Yh (p := ⟨gb1090, 0, none⟩) (Kd.Yq HO1107.out BK1090.out (by decide)) (fun _ hk => hk.2) (.bool t1104)) (fun _ hk => hk.2) (.slice Ao32 t1105.length co32)) (fun _ hk => hk.2) (.slice Ao34 t1108.length co34)) (fun _ hk => hk.1.1.1.1.1), by (with_reducible repeat (first | apply Kd.Zf | apply Kd.Ze | apply Kd.Zj)); exact Kd.Zv (Kd.Yh (p := ⟨gb1090, 2, none⟩) (Kd.Yh (p := ⟨gb1090, 1, none⟩) (Kd.Yh (p := ⟨gb1090, 0, none⟩) (Kd.Yq HO1110.out BK1090.out (by decide)) (fun _ hk => hk.2) (.bool t1104)) (fun _ hk => hk.2) (.slice Ao32 t1105.length co32)) (fun _ hk => hk.2) (.slice Ao34 t1108.length co34)) (fun _ hk => hk.1.1.1.1.1), Qa0⟩
def ratio_Add.f (k : Nat) (a0_0 : Bool) (l0_1 : List Int) (l0_2 : List Int) (a1_0 : Bool) (l1_1 : List Int) (l1_2 : List Int) : Option (Bool × List Int × List Int × Int) := (ratio_forms.f k (([(⟨a0_0, l0_1, l0_2⟩ : S50), (⟨a1_0, l1_1, l1_2⟩ : S50)] : List (S50)))).bind fun t1118 => (if t1118 = true then ((ratio_add.f k a0_0 l0_1 l0_2 a1_0 l1_1 l1_2).bind fun bt1119 => (some (bt1119.1, bt1119.2.1, bt1119.2.2.1, bt1119.2.2.2))) else (none))
theorem ratio_Add.mono : ∀ a0 a1 a2 a3 a4 a5 k, LeO (ratio_Add.f k a0 a1 a2 a3 a4 a5) (ratio_Add.f (k + 1) a0 a1 a2 a3 a4 a5) := by
 intro a0 a1 a2 a3 a4 a5 k
 unfold ratio_Add.f
 have m0 := @ratio_add.mono
 have m1 := @ratio_forms.mono
 exact Qa6
theorem ratio_Add.calls (k : Nat) (a0_0 : Bool) (P0_1_ : Nat → Prop) (A0_1 : Option Addr) (c0_1 : Nat) (l0_1 : List Int) (P0_2_ : Nat → Prop) (A0_2 : Option Addr) (c0_2 : Nat) (l0_2 : List Int) (a1_0 : Bool) (P1_1_ : Nat → Prop) (A1_1 : Option Addr) (c1_1 : Nat) (l1_1 : List Int) (P1_2_ : Nat → Prop) (A1_2 : Option Addr) (c1_2 : Nat) (l1_2 : List Int) (r1 : Bool) (r2 : List Int) (r3 : List Int) (r4 : Int) (w : World) (hs0_1 : Kd.V (Kd.int .u32) 47 w w.heap.size (fun k_ => P0_1_ k_) (.slice A0_1 l0_1.length c0_1) l0_1) (hs0_2 : Kd.V (Kd.int .u32) 47 w w.heap.size (fun k_ => P0_2_ k_) (.slice A0_2 l0_2.length c0_2) l0_2) (hs1_1 : Kd.V (Kd.int .u32) 47 w w.heap.size (fun k_ => P1_1_ k_) (.slice A1_1 l1_1.length c1_1) l1_1) (hs1_2 : Kd.V (Kd.int .u32) 47 w w.heap.size (fun k_ => P1_2_ k_) (.slice A1_2 l1_2.length c1_2) l1_2) (h : ratio_Add.f k a0_0 l0_1 l0_2 a1_0 l1_1 l1_2 = some (r1, r2, r3, r4)) :
  Calls Try.prog 70 #[.agg #[.bool a0_0, .slice A0_1 l0_1.length c0_1, .slice A0_2 l0_2.length c0_2], .agg #[.bool a1_0, .slice A1_1 l1_1.length c1_1, .slice A1_2 l1_2.length c1_2]] w fun e w' => ∃ v1_ v2_ : Value, e = .returned (.tuple #[.agg #[.bool r1, v1_, v2_], .int .i64 r4]) ∧ Kd.R (Kd.int .u32) 47 w' w.heap.size (fun k_ => (w.heap.size ≤ k_) ∧ some k_ ≠ (v2_ : Value).ownBlock) v1_ r2 ∧ Kd.R (Kd.int .u32) 47 w' w.heap.size (fun k_ => (w.heap.size ≤ k_) ∧ some k_ ≠ (v1_ : Value).ownBlock) v2_ r3 ∧ Below w.heap.size w w' := by
 have hu50 := Try.underlying50
 have HO0_1 := Yt.mk (show Kd.V (Kd.int .u32) 47 w w.heap.size (fun k_ => ((P0_1_ k_ ∨ P0_2_ k_ ∨ P1_1_ k_ ∨ P1_2_ k_) ∨ w.heap.size ≤ k_)) (.slice A0_1 l0_1.length c0_1) l0_1 from Kd.Yp hs0_1 (fun k_ hk => .inl (.inl hk)))
 have HO0_2 := Yt.mk (show Kd.V (Kd.int .u32) 47 w w.heap.size (fun k_ => ((P0_1_ k_ ∨ P0_2_ k_ ∨ P1_1_ k_ ∨ P1_2_ k_) ∨ w.heap.size ≤ k_)) (.slice A0_2 l0_2.length c0_2) l0_2 from Kd.Yp hs0_2 (fun k_ hk => .inl (.inr (.inl hk))))
 have HO1_1 := Yt.mk (show Kd.V (Kd.int .u32) 47 w w.heap.size (fun k_ => ((P0_1_ k_ ∨ P0_2_ k_ ∨ P1_1_ k_ ∨ P1_2_ k_) ∨ w.heap.size ≤ k_)) (.slice A1_1 l1_1.length c1_1) l1_1 from Kd.Yp hs1_1 (fun k_ hk => .inl (.inr (.inr (.inl hk)))))
 have HO1_2 := Yt.mk (show Kd.V (Kd.int .u32) 47 w w.heap.size (fun k_ => ((P0_1_ k_ ∨ P0_2_ k_ ∨ P1_1_ k_ ∨ P1_2_ k_) ∨ w.heap.size ≤ k_)) (.slice A1_2 l1_2.length c1_2) l1_2 from Kd.Yp hs1_2 (fun k_ hk => .inl (.inr (.inr (.inr hk)))))
 have HB := Yt.mk (Below.refl w.heap.size w)
 unfold ratio_Add.f at h
 have H := h
 clear h
 obtain ⟨y1115, hy1115⟩ : ∃ y_ : List (S50), y_ = (([(⟨a0_0, l0_1, l0_2⟩ : S50), (⟨a1_0, l1_1, l1_2⟩ : S50)] : List (S50))) := ⟨_, rfl⟩
 replace H : ((ratio_forms.f k y1115).bind fun t1118 => (if t1118 = true then ((ratio_add.f k a0_0 l0_1 l0_2 a1_0 l1_1 l1_2).bind fun bt1119 => (some (bt1119.1, bt1119.2.1, bt1119.2.2.1, bt1119.2.2.2))) else (none))) = some (r1, r2, r3, r4) := Qh hy1115 H
 have Ny1115 := Yt.mk hy1115
 clear hy1115
 replace H := Option.bind_eq_some_iff.mp H
 obtain ⟨t1118, A30, H⟩ := H
 try dsimp only at H
 have A3 := Yt.mk A30
 clear A30
 by_cases c4 : t1118 = true
 rotate_left
 ·replace c4 := Bool.eq_false_iff.mpr c4
  subst c4
  rw [if_neg (show ¬ (false = true) by decide)] at H
  exact absurd H (by simp)
 subst c4
 rw [if_pos rfl] at H
 replace H := Option.bind_eq_some_iff.mp H
 obtain ⟨⟨t1119, t1120, t1123, t1126⟩, A50, H⟩ := H
 replace H : (some (t1119, t1120, t1123, t1126)) = some (r1, r2, r3, r4) := H
 have A5 := Yt.mk A50
 clear A50
 simp only [Option.some.injEq, Prod.mk.injEq] at H
 obtain ⟨rfl, rfl, rfl, rfl⟩ := H
 go_enter Try.func70, Try.ntmps70
 go_wp2_with (first | ((with_reducible refine Yk (N := 2) rfl ?_); refine Yo ?hg (N := 2) ?hd (cs := #[.bool a0_0, .slice A0_1 l0_1.length c0_1, .slice A0_2 l0_2.length c0_2]) (t := 50) ?hr ?_; (case hd => rfl); (case hg => rfl); (case hr => exact Qa9); intro gb1112 hg w6 hbox hb; replace HO0_1 := Yt.mk (Kd.Yr (Kd.V_elderB (Qr7 HO0_1.out) gb1112 (Nat.le_of_eq hg.symm)) hb); replace HO0_2 := Yt.mk (Kd.Yr (Kd.V_elderB (Qr7 HO0_2.out) gb1112 (Nat.le_of_eq hg.symm)) hb); replace HO1_1 := Yt.mk (Kd.Yr (Kd.V_elderB (Qr7 HO1_1.out) gb1112 (Nat.le_of_eq hg.symm)) hb); replace HO1_2 := Yt.mk (Kd.Yr (Kd.V_elderB (Qr7 HO1_2.out) gb1112 (Nat.le_of_eq hg.symm)) hb); have BK1112 := Yt.mk (hbox); have GW1112 := Yt.mk ((by rw [hg]; exact (Zk (Qa0)) : w.heap.size ≤ gb1112)); have GE1112 := Yt.mk ((by rw [hg]; exact (Zk (Qa0)) : w.heap.size ≤ gb1112)); replace HB := Yt.mk (Zm (Qa0) hb); clear hb hbox hg) | ((with_reducible refine Yk (N := 3) rfl ?_); refine Yo ?hg (N := 3) ?hd (cs := #[.bool a1_0, .slice A1_1 l1_1.length c1_1, .slice A1_2 l1_2.length c1_2]) (t := 50) ?hr ?_; (case hd => rfl); (case hg => rfl); (case hr => exact Qa9); intro gb1113 hg w7 hbox hb; replace HO0_1 := Yt.mk (Kd.Yr (Kd.V_elderB (Qr7 HO0_1.out) gb1113 (Nat.le_of_eq hg.symm)) hb); replace HO0_2 := Yt.mk (Kd.Yr (Kd.V_elderB (Qr7 HO0_2.out) gb1113 (Nat.le_of_eq hg.symm)) hb); replace HO1_1 := Yt.mk (Kd.Yr (Kd.V_elderB (Qr7 HO1_1.out) gb1113 (Nat.le_of_eq hg.symm)) hb); replace HO1_2 := Yt.mk (Kd.Yr (Kd.V_elderB (Qr7 HO1_2.out) gb1113 (Nat.le_of_eq hg.symm)) hb); have BK1113 := Yt.mk (hbox); have GW1113 := Yt.mk ((by rw [hg]; exact (Zk (Qa0)) : w.heap.size ≤ gb1113)); have GE1113 := Yt.mk ((by rw [hg]; exact (Zk (Qa0)) : w.heap.size ≤ gb1113)); replace HB := Yt.mk (Zm (Qa0) hb); have NB1112_1113 := Yt.mk ((by rw [hg]; exact Nat.ne_of_lt (blk_lt (g := gb1112) (o := .cells #[.bool a0_0, .slice A0_1 l0_1.length c0_1, .slice A0_2 l0_2.length c0_2] 50 (0, 0)) (Qr12 BK1112.out)) : gb1112 ≠ gb1113)); have NB1113_1112 := Yt.mk ((by rw [hg]; exact Nat.ne_of_gt (blk_lt (g := gb1112) (o := .cells #[.bool a0_0, .slice A0_1 l0_1.length c0_1, .slice A0_2 l0_2.length c0_2] 50 (0, 0)) (Qr12 BK1112.out)) : gb1113 ≠ gb1112)); replace BK1112 := Yt.mk (Zq (g := gb1112) (o := .cells #[.bool a0_0, .slice A0_1 l0_1.length c0_1, .slice A0_2 l0_2.length c0_2] 50 (0, 0)) (Qr12 BK1112.out) hb); clear hb hbox hg) | ((with_reducible refine Yk (N := 4) rfl ?_); refine Yo ?hg (N := 4) ?hd (cs := #[.bool false, .slice none 0 0, .slice none 0 0]) (t := 50) ?hr ?_; (case hd => rfl); (case hg => rfl); (case hr => exact Qa9); intro gb1114 hg w8 hbox hb; replace HO0_1 := Yt.mk (Kd.Yr (Kd.V_elderB (Qr7 HO0_1.out) gb1114 (Nat.le_of_eq hg.symm)) hb); replace HO0_2 := Yt.mk (Kd.Yr (Kd.V_elderB (Qr7 HO0_2.out) gb1114 (Nat.le_of_eq hg.symm)) hb); replace HO1_1 := Yt.mk (Kd.Yr (Kd.V_elderB (Qr7 HO1_1.out) gb1114 (Nat.le_of_eq hg.symm)) hb); replace HO1_2 := Yt.mk (Kd.Yr (Kd.V_elderB (Qr7 HO1_2.out) gb1114 (Nat.le_of_eq hg.symm)) hb); have BK1114 := Yt.mk (hbox); have GW1114 := Yt.mk ((by rw [hg]; exact (Zk (Qa0)) : w.heap.size ≤ gb1114)); have GE1114 := Yt.mk ((by rw [hg]; exact (Zk (Qa0)) : w.heap.size ≤ gb1114)); replace HB := Yt.mk (Zm (Qa0) hb); have NB1112_1114 := Yt.mk ((by rw [hg]; exact Nat.ne_of_lt (blk_lt (g := gb1112) (o := .cells #[.bool a0_0, .slice A0_1 l0_1.length c0_1, .slice A0_2 l0_2.length c0_2] 50 (0, 0)) (Qr12 BK1112.out)) : gb1112 ≠ gb1114)); have NB1114_1112 := Yt.mk ((by rw [hg]; exact Nat.ne_of_gt (blk_lt (g := gb1112) (o := .cells #[.bool a0_0, .slice A0_1 l0_1.length c0_1, .slice A0_2 l0_2.length c0_2] 50 (0, 0)) (Qr12 BK1112.out)) : gb1114 ≠ gb1112)); replace BK1112 := Yt.mk (Zq (g := gb1112) (o := .cells #[.bool a0_0, .slice A0_1 l0_1.length c0_1, .slice A0_2 l0_2.length c0_2] 50 (0, 0)) (Qr12 BK1112.out) hb); have NB1113_1114 := Yt.mk ((by rw [hg]; exact Nat.ne_of_lt (blk_lt (g := gb1113) (o := .cells #[.bool a1_0, .slice A1_1 l1_1.length c1_1, .slice A1_2 l1_2.length c1_2] 50 (0, 0)) (Qr12 BK1113.out)) : gb1113 ≠ gb1114)); have NB1114_1113 := Yt.mk ((by rw [hg]; exact Nat.ne_of_gt (blk_lt (g := gb1113) (o := .cells #[.bool a1_0, .slice A1_1 l1_1.length c1_1, .slice A1_2 l1_2.length c1_2] 50 (0, 0)) (Qr12 BK1113.out)) : gb1114 ≠ gb1113)); replace BK1113 := Yt.mk (Zq (g := gb1113) (o := .cells #[.bool a1_0, .slice A1_1 l1_1.length c1_1, .slice A1_2 l1_2.length c1_2] 50 (0, 0)) (Qr12 BK1113.out) hb); clear hb hbox hg; have hnb9 := NB1112_1113.out; have hnc9 := NB1113_1112.out; have hnb10 := NB1112_1114.out; have hnc10 := NB1114_1112.out; have hcz11_0 : w8.cell? ⟨gb1112, 0, none⟩ = some (.bool a0_0) := (Zl BK1112.out 0).trans rfl; have hcz11_1 : w8.cell? ⟨gb1112, 1, none⟩ = some (.slice A0_1 l0_1.length c0_1) := (Zl BK1112.out 1).trans rfl; have hcz11_2 : w8.cell? ⟨gb1112, 2, none⟩ = some (.slice A0_2 l0_2.length c0_2) := (Zl BK1112.out 2).trans rfl; have hfz11_0 := Zn BK1112.out 0; have hfz11_1 := Zn BK1112.out 1; have hfz11_2 := Zn BK1112.out 2; have hnb12 := NB1113_1114.out; have hnc12 := NB1114_1113.out; have hcz13_0 : w8.cell? ⟨gb1113, 0, none⟩ = some (.bool a1_0) := (Zl BK1113.out 0).trans rfl; have hcz13_1 : w8.cell? ⟨gb1113, 1, none⟩ = some (.slice A1_1 l1_1.length c1_1) := (Zl BK1113.out 1).trans rfl; have hcz13_2 : w8.cell? ⟨gb1113, 2, none⟩ = some (.slice A1_2 l1_2.length c1_2) := (Zl BK1113.out 2).trans rfl; have hfz13_0 := Zn BK1113.out 0; have hfz13_1 := Zn BK1113.out 1; have hfz13_2 := Zn BK1113.out 2) | ((with_reducible refine Yk (N := 8) rfl ?_); refine Kd.N_lit k50 _ 50 ?hg (N' := 8) ?hd (xs := ([(⟨a0_0, l0_1, l0_2⟩ : S50), (⟨a1_0, l1_1, l1_2⟩ : S50)] : List (S50))) (inner := [.bool a0_0, .slice A0_1 l0_1.length c0_1, .slice A0_2 l0_2.length c0_2, .bool a1_0, .slice A1_1 l1_1.length c1_1, .slice A1_2 l1_2.length c1_2]) (ok := (fun k_ => ((P0_1_ k_ ∨ P0_2_ k_ ∨ P1_1_ k_ ∨ P1_2_ k_) ∨ w.heap.size ≤ k_) ∧ k_ ≠ gb1112 ∧ k_ ≠ gb1113 ∧ k_ ≠ gb1114)) (okp := (fun k_ => ((P0_1_ k_ ∨ P0_2_ k_ ∨ P1_1_ k_ ∨ P1_2_ k_) ∨ w.heap.size ≤ k_) ∧ k_ ≠ gb1112 ∧ k_ ≠ gb1113 ∧ k_ ≠ gb1114)) ?hr ?hp (fun _ hk => hk) ((show ∀ k_, w8.heap.size ≤ k_ → (fun k_ => ((P0_1_ k_ ∨ P0_2_ k_ ∨ P1_1_ k_ ∨ P1_2_ k_) ∨ w.heap.size ≤ k_) ∧ k_ ≠ gb1112 ∧ k_ ≠ gb1113 ∧ k_ ≠ gb1114) k_ from fun k_ hk => ⟨(.inr (Nat.le_trans (Zk (Qa0)) hk)), Kd.freshB (g := gb1112) (o := .cells #[.bool a0_0, .slice A0_1 l0_1.length c0_1, .slice A0_2 l0_2.length c0_2] 50 (0, 0)) (Qr12 BK1112.out) k_ hk, Kd.freshB (g := gb1113) (o := .cells #[.bool a1_0, .slice A1_1 l1_1.length c1_1, .slice A1_2 l1_2.length c1_2] 50 (0, 0)) (Qr12 BK1113.out) k_ hk, Kd.freshB (g := gb1114) (o := .cells #[.bool false, .slice none 0 0, .slice none 0 0] 50 (0, 0)) (Qr12 BK1114.out) k_ hk⟩) _ (Nat.le_refl _)) (Below.refl _ _) (Nat.le_refl _) (by simp) ?_; (case hd => rfl); (case hg => rfl); (case hr => exact Qa9); (case hp => exact (Reps.c3 (show Kd.FK k50 _ _ (⟨a0_0, l0_1, l0_2⟩ : S50) [.bool a0_0, .slice A0_1 l0_1.length c0_1, .slice A0_2 l0_2.length c0_2] from (k50_mkF _ _ (⟨a0_0, l0_1, l0_2⟩ : S50) (Kd.Yn (Kd.Yp (ok' := (fun k_ => ((P0_1_ k_ ∨ P0_2_ k_ ∨ P1_1_ k_ ∨ P1_2_ k_) ∨ w.heap.size ≤ k_) ∧ k_ ≠ gb1112 ∧ k_ ≠ gb1113 ∧ k_ ≠ gb1114)) (HO0_1.out) (fun k_ hk => ⟨hk.1.1.1, ⟨hk.1.1.2, ⟨hk.1.2, hk.2⟩⟩⟩))).2.1 (Kd.V_F (Kd.Yp (ok' := (fun k_ => ((P0_1_ k_ ∨ P0_2_ k_ ∨ P1_1_ k_ ∨ P1_2_ k_) ∨ w.heap.size ≤ k_) ∧ k_ ≠ gb1112 ∧ k_ ≠ gb1113 ∧ k_ ≠ gb1114)) (HO0_1.out) (fun k_ hk => ⟨hk.1.1.1, ⟨hk.1.1.2, ⟨hk.1.2, hk.2⟩⟩⟩))) (Kd.Yn (Kd.Yp (ok' := (fun k_ => ((P0_1_ k_ ∨ P0_2_ k_ ∨ P1_1_ k_ ∨ P1_2_ k_) ∨ w.heap.size ≤ k_) ∧ k_ ≠ gb1112 ∧ k_ ≠ gb1113 ∧ k_ ≠ gb1114)) (HO0_2.out) (fun k_ hk => ⟨hk.1.1.1, ⟨hk.1.1.2, ⟨hk.1.2, hk.2⟩⟩⟩))).2.1 (Kd.V_F (Kd.Yp (ok' := (fun k_ => ((P0_1_ k_ ∨ P0_2_ k_ ∨ P1_1_ k_ ∨ P1_2_ k_) ∨ w.heap.size ≤ k_) ∧ k_ ≠ gb1112 ∧ k_ ≠ gb1113 ∧ k_ ≠ gb1114)) (HO0_2.out) (fun k_ hk => ⟨hk.1.1.1, ⟨hk.1.1.2, ⟨hk.1.2, hk.2⟩⟩⟩))))) (Reps.c3 (show Kd.FK k50 _ _ (⟨a1_0, l1_1, l1_2⟩ : S50) [.bool a1_0, .slice A1_1 l1_1.length c1_1, .slice A1_2 l1_2.length c1_2] from (k50_mkF _ _ (⟨a1_0, l1_1, l1_2⟩ : S50) (Kd.Yn (Kd.Yp (ok' := (fun k_ => ((P0_1_ k_ ∨ P0_2_ k_ ∨ P1_1_ k_ ∨ P1_2_ k_) ∨ w.heap.size ≤ k_) ∧ k_ ≠ gb1112 ∧ k_ ≠ gb1113 ∧ k_ ≠ gb1114)) (HO1_1.out) (fun k_ hk => ⟨hk.1.1.1, ⟨hk.1.1.2, ⟨hk.1.2, hk.2⟩⟩⟩))).2.1 (Kd.V_F (Kd.Yp (ok' := (fun k_ => ((P0_1_ k_ ∨ P0_2_ k_ ∨ P1_1_ k_ ∨ P1_2_ k_) ∨ w.heap.size ≤ k_) ∧ k_ ≠ gb1112 ∧ k_ ≠ gb1113 ∧ k_ ≠ gb1114)) (HO1_1.out) (fun k_ hk => ⟨hk.1.1.1, ⟨hk.1.1.2, ⟨hk.1.2, hk.2⟩⟩⟩))) (Kd.Yn (Kd.Yp (ok' := (fun k_ => ((P0_1_ k_ ∨ P0_2_ k_ ∨ P1_1_ k_ ∨ P1_2_ k_) ∨ w.heap.size ≤ k_) ∧ k_ ≠ gb1112 ∧ k_ ≠ gb1113 ∧ k_ ≠ gb1114)) (HO1_2.out) (fun k_ hk => ⟨hk.1.1.1, ⟨hk.1.1.2, ⟨hk.1.2, hk.2⟩⟩⟩))).2.1 (Kd.V_F (Kd.Yp (ok' := (fun k_ => ((P0_1_ k_ ∨ P0_2_ k_ ∨ P1_1_ k_ ∨ P1_2_ k_) ∨ w.heap.size ≤ k_) ∧ k_ ≠ gb1112 ∧ k_ ≠ gb1113 ∧ k_ ≠ gb1114)) (HO1_2.out) (fun k_ hk => ⟨hk.1.1.1, ⟨hk.1.1.2, ⟨hk.1.2, hk.2⟩⟩⟩))))) (Reps.none _ _)))); intro v1116 w14 ho15 hb hg_ hnew_; clear hg_ hnew_; (first | rw [← Ny1115.out] at ho15 | (simp only [Int.reduceToNat] at ho15; rw [← Ny1115.out] at ho15)); replace HO0_1 := Yt.mk (Kd.V_elder' (Qr7 HO0_1.out) (Kd.N_base ho15) hb); replace HO0_2 := Yt.mk (Kd.V_elder' (Qr7 HO0_2.out) (Kd.N_base ho15) hb); replace HO1_1 := Yt.mk (Kd.V_elder' (Qr7 HO1_1.out) (Kd.N_base ho15) hb); replace HO1_2 := Yt.mk (Kd.V_elder' (Qr7 HO1_2.out) (Kd.N_base ho15) hb); have HO1117 := Yt.mk (Kd.N_lower ho15 (Zk (Qa0))); replace BK1112 := Yt.mk (Zq (g := gb1112) (o := .cells #[.bool a0_0, .slice A0_1 l0_1.length c0_1, .slice A0_2 l0_2.length c0_2] 50 (0, 0)) (Qr12 BK1112.out) hb); replace BK1113 := Yt.mk (Zq (g := gb1113) (o := .cells #[.bool a1_0, .slice A1_1 l1_1.length c1_1, .slice A1_2 l1_2.length c1_2] 50 (0, 0)) (Qr12 BK1113.out) hb); replace BK1114 := Yt.mk (Zq (g := gb1114) (o := .cells #[.bool false, .slice none 0 0, .slice none 0 0] 50 (0, 0)) (Qr12 BK1114.out) hb); replace HB := Yt.mk (Zm (Qa0) hb); clear hb ho15; obtain ⟨Ao16, co16, eo16⟩ := Kd.N_slice HO1117.out; subst eo16) | ((with_reducible refine Zr (f := 103) rfl ?_); refine Yg (some 9) rfl rfl Try.func103 Qa8 rfl #[.slice Ao16 y1115.length co16] rfl Qa2 ?_; (with_reducible refine (ratio_forms.calls k _ _ y1115 true _ ?side1 ?side2 A3.out).mono ?_); (case side1 => exact Qe11 (Kd.N_reads' HO1117.out).2.2); (case side2 => exact (Kd.N_reads' HO1117.out).2.1); rintro e w17 ⟨rfl, hb⟩; refine ⟨_, rfl, ?_⟩; replace HO0_1 := Yt.mk (Kd.Yr (Qr7 HO0_1.out) hb); replace HO0_2 := Yt.mk (Kd.Yr (Qr7 HO0_2.out) hb); replace HO1_1 := Yt.mk (Kd.Yr (Qr7 HO1_1.out) hb); replace HO1_2 := Yt.mk (Kd.Yr (Qr7 HO1_2.out) hb); replace HO1117 := Yt.mk (Kd.N_below (Qr13 HO1117.out) hb); replace BK1112 := Yt.mk (Zq (g := gb1112) (o := .cells #[.bool a0_0, .slice A0_1 l0_1.length c0_1, .slice A0_2 l0_2.length c0_2] 50 (0, 0)) (Qr12 BK1112.out) hb); replace BK1113 := Yt.mk (Zq (g := gb1113) (o := .cells #[.bool a1_0, .slice A1_1 l1_1.length c1_1, .slice A1_2 l1_2.length c1_2] 50 (0, 0)) (Qr12 BK1113.out) hb); replace BK1114 := Yt.mk (Zq (g := gb1114) (o := .cells #[.bool false, .slice none 0 0, .slice none 0 0] 50 (0, 0)) (Qr12 BK1114.out) hb); replace HB := Yt.mk (Zm (Qa0) hb); (try clear hb); have hcz18_0 : w17.cell? ⟨gb1112, 0, none⟩ = some (.bool a0_0) := (Zl BK1112.out 0).trans rfl; have hcz18_1 : w17.cell? ⟨gb1112, 1, none⟩ = some (.slice A0_1 l0_1.length c0_1) := (Zl BK1112.out 1).trans rfl; have hcz18_2 : w17.cell? ⟨gb1112, 2, none⟩ = some (.slice A0_2 l0_2.length c0_2) := (Zl BK1112.out 2).trans rfl; have hfz18_0 := Zn BK1112.out 0; have hfz18_1 := Zn BK1112.out 1; have hfz18_2 := Zn BK1112.out 2; have hcz19_0 : w17.cell? ⟨gb1113, 0, none⟩ = some (.bool a1_0) := (Zl BK1113.out 0).trans rfl; have hcz19_1 : w17.cell? ⟨gb1113, 1, none⟩ = some (.slice A1_1 l1_1.length c1_1) := (Zl BK1113.out 1).trans rfl; have hcz19_2 : w17.cell? ⟨gb1113, 2, none⟩ = some (.slice A1_2 l1_2.length c1_2) := (Zl BK1113.out 2).trans rfl; have hfz19_0 := Zn BK1113.out 0; have hfz19_1 := Zn BK1113.out 1; have hfz19_2 := Zn BK1113.out 2) | ((with_reducible refine Zr (f := 106) rfl ?_); refine Yg (some 14) rfl rfl Try.func106 Qa8 rfl #[.agg #[.bool a0_0, .slice A0_1 l0_1.length c0_1, .slice A0_2 l0_2.length c0_2], .agg #[.bool a1_0, .slice A1_1 l1_1.length c1_1, .slice A1_2 l1_2.length c1_2]] rfl Qa2 ?_; (with_reducible refine (ratio_add.calls k a0_0 _ _ l0_1 _ _ l0_2 a1_0 _ _ l1_1 _ _ l1_2 t1119 t1120 t1123 t1126 _ ?side1 ?side2 ?side3 ?side4 ?side5 ?side6 ?side7 ?side8 A5.out).mono ?_); (case side1 => exact Qe11 (Kd.Yn HO0_1.out).2.2); (case side2 => exact (Kd.Yn HO0_1.out).2.1); (case side3 => exact Qe11 (Kd.Yn HO0_2.out).2.2); (case side4 => exact (Kd.Yn HO0_2.out).2.1); (case side5 => exact Qe11 (Kd.Yn HO1_1.out).2.2); (case side6 => exact (Kd.Yn HO1_1.out).2.1); (case side7 => exact Qe11 (Kd.Yn HO1_2.out).2.2); (case side8 => exact (Kd.Yn HO1_2.out).2.1); rintro e w20 ⟨v1121, v1124, rfl, ho0, ho1, hb⟩; refine ⟨_, rfl, ?_⟩; replace HO0_1 := Yt.mk (Kd.Yp (Kd.V_told (Kd.V_told (Kd.V_old (Qr7 HO0_1.out) hb) (Kd.Zw ho0)) (Kd.Zw ho1)) (fun _ h_ => h_.1)); replace HO0_2 := Yt.mk (Kd.Yp (Kd.V_told (Kd.V_told (Kd.V_old (Qr7 HO0_2.out) hb) (Kd.Zw ho0)) (Kd.Zw ho1)) (fun _ h_ => h_.1)); replace HO1_1 := Yt.mk (Kd.Yp (Kd.V_told (Kd.V_told (Kd.V_old (Qr7 HO1_1.out) hb) (Kd.Zw ho0)) (Kd.Zw ho1)) (fun _ h_ => h_.1)); replace HO1_2 := Yt.mk (Kd.Yp (Kd.V_told (Kd.V_told (Kd.V_old (Qr7 HO1_2.out) hb) (Kd.Zw ho0)) (Kd.Zw ho1)) (fun _ h_ => h_.1)); replace HO1117 := Yt.mk (Kd.N_mono (Kd.N_told (Kd.N_told (Kd.N_old (Qr13 HO1117.out) hb) (Kd.Zw ho0)) (Kd.Zw ho1)) (fun _ h_ => h_.1)); have HO1122 := Yt.mk (Kd.Yb (Kd.R_newM (M := fun k_ => (w.heap.size ≤ k_)) ho0 (Zk (Qa0)) (fun k_ h_ => h_)) (Zk (Qa0))); have HO1125 := Yt.mk (Kd.Yb (Kd.R_newM (M := fun k_ => (w.heap.size ≤ k_)) ho1 (Zk (Qa0)) (fun k_ h_ => h_)) (Zk (Qa0))); replace BK1112 := Yt.mk (Zq (g := gb1112) (o := .cells #[.bool a0_0, .slice A0_1 l0_1.length c0_1, .slice A0_2 l0_2.length c0_2] 50 (0, 0)) (Qr12 BK1112.out) hb); replace BK1113 := Yt.mk (Zq (g := gb1113) (o := .cells #[.bool a1_0, .slice A1_1 l1_1.length c1_1, .slice A1_2 l1_2.length c1_2] 50 (0, 0)) (Qr12 BK1113.out) hb); replace BK1114 := Yt.mk (Zq (g := gb1114) (o := .cells #[.bool false, .slice none 0 0, .slice none 0 0] 50 (0, 0)) (Qr12 BK1114.out) hb); replace HB := Yt.mk (Zm (Qa0) hb); (try clear hb); (try clear ho0); (try clear ho1); have hcz21_0 : w20.cell? ⟨gb1114, 0, none⟩ = some (.bool false) := (Zl BK1114.out 0).trans rfl; have hcz21_1 : w20.cell? ⟨gb1114, 1, none⟩ = some (.slice none 0 0) := (Zl BK1114.out 1).trans rfl; have hcz21_2 : w20.cell? ⟨gb1114, 2, none⟩ = some (.slice none 0 0) := (Zl BK1114.out 2).trans rfl; have hfz21_0 := Zn BK1114.out 0; have hfz21_1 := Zn BK1114.out 1; have hfz21_2 := Zn BK1114.out 2; obtain ⟨Ao22, co22, eo22⟩ := Kd.Zx HO1122.out; subst eo22; obtain ⟨Ao23, co23, eo23⟩ := Kd.Zx HO1125.out; subst eo23))
 refine bodyPost_ret (results_ct rfl _ _ gb1114 50 #[.bool t1119, .slice Ao22 t1120.length co22, .slice Ao23 t1123.length co23] (0, 0) _ rfl (by (with_reducible repeat (first | refine Zg ?_ _ | refine Zi ?_ | refine Zh ?_ _)); refine Ym (cs := #[.bool t1119, .slice Ao22 t1120.length co22, .slice none 0 0]) ?_ 2 _ rfl; (with_reducible repeat (first | refine Zg ?_ _ | refine Zi ?_ | refine Zh ?_ _)); refine Ym (cs := #[.bool t1119, .slice none 0 0, .slice none 0 0]) ?_ 1 _ rfl; (with_reducible repeat (first | refine Zg ?_ _ | refine Zi ?_ | refine Zh ?_ _)); refine Ym (cs := #[.bool false, .slice none 0 0, .slice none 0 0]) ?_ 0 _ rfl; (with_reducible repeat (first | refine Zg ?_ _ | refine Zi ?_ | refine Zh ?_ _)); exact BK1114.out) Try.underlying50 rfl Qa8) rfl ?_
 exact ⟨_, _, Qa4, by (with_reducible repeat (first | apply Kd.Zf | apply Kd.Ze | apply Kd.Zj)); exact Kd.Zv (Kd.Yh (p := ⟨gb1114, 2, none⟩) (Kd.Yh (p := ⟨gb1114, 1, none⟩) (Kd.Yh (p := ⟨gb1114, 0, none⟩) (Kd.Yq HO1122.out BK1114.out (by decide)) (fun _ hk => hk.2) (.bool t1119)) (fun _ hk => hk.2) (.slice Ao22 t1120.length co22)) (fun _ hk => hk.2) (.slice Ao23 t1123.length co23)) (fun _ hk => ⟨hk.1.1, hk.1.2⟩), by (with_reducible repeat (first | apply Kd.Zf | apply Kd.Ze | apply Kd.Zj)); exact Kd.Zv (Kd.Yh (p := ⟨gb1114, 2, none⟩) (Kd.Yh (p := ⟨gb1114, 1, none⟩) (Kd.Yh (p := ⟨gb1114, 0, none⟩) (Kd.Yq HO1125.out BK1114.out (by decide)) (fun _ hk => hk.2) (.bool t1119)) (fun _ hk => hk.2) (.slice Ao22 t1120.length co22)) (fun _ hk => hk.2) (.slice Ao23 t1123.length co23)) (fun _ hk => ⟨hk.1.1, hk.1.2⟩), Qa0⟩
end Go.Proofs.Ytgffficaoioljaa.P
end
section
namespace Go.Proofs.Ytgffficaoioljaa.P
open Go.RowKit Go.Proofs.YtgffficaoioljaaW.PrintWords Go.Proofs.YtgffficaoioljaaW.PrintLast Go.Proofs.YtgffficaoioljaaW.PrintMore
attribute [local go_sem] max2_int min2_int max_two min_two max_three min_three max_four min_four
set_option linter.unusedVariables false
set_option linter.unusedSimpArgs false
end Go.Proofs.Ytgffficaoioljaa.P
end
