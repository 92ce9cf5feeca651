import Derived.Test.YtgffficaoioljaaRk6
import Derived.Test.YtgffficaoioljaaRk4
import Derived.Test.YtgffficaoioljaaRk8
import Derived.Test.YtgffficaoioljaaRk7
import Derived.Test.YtgffficaoioljaaRk9
import Derived.Test.YtgffficaoioljaaProg
import Derived.Below
import Derived.Deep.Draws
import Derived.Deep.AppendLies
import Derived.Maps.AppendAt
import Derived.OwnWalk
import Derived.Laws.BytesArg
import Derived.Laws.MakeOwn
import Derived.Laws.OwnMore
import Derived.Deep.OwnRows
import Derived.Tactics
import Derived.Lib.ConvBytes
import Derived.Laws.Slices
import Derived.WalkKit
import Derived.KernelRfl
import Derived.RowKit3
import Derived.Deep.LoopGhost
import Derived.Deep.QuietTactic
import Derived.BigQuiet
import Derived.WideLaws
import Derived.Deep.DeepCutAuto
import Derived.Deep.CutBlock
import Derived.Deep.RegionHeld3
import Derived.Laws.Rows
import Derived.Lib.AppendStr
import Derived.ArgAppend
import Derived.Laws.IdiomCopy
import Derived.OrdersHeld
import Derived.Laws.BitsLemmas
import Derived.RowKit
section
namespace Go.Proofs.Ytgffficaoioljaa.P
open Go.RowKit Go.Proofs.YtgffficaoioljaaW.PrintWords Go.Proofs.YtgffficaoioljaaW.PrintLast Go.Proofs.YtgffficaoioljaaW.PrintMore
attribute [local go_sem] max2_int min2_int max_two min_two max_three min_three max_four min_four
set_option linter.unusedVariables false
set_option linter.unusedSimpArgs false
set_option maxHeartbeats 8000000
set_option maxRecDepth 100000
def errW : Option Int → Value
 | none => .nilIface
 | some c => .iface 0 (.int .i64 c)
theorem Zp : errW none = .nilIface := rfl
theorem Zo (c : Int) : errW (some c) = .iface 0 (.int .i64 c) := rfl
theorem info5 : (Try.prog.info? 5).map (fun i => (i.zero, i.size, i.bytes)) = some (some (.int .u8 0), 1, 1) := by kernel_rfl
theorem info47 : (Try.prog.info? 47).map (fun i => (i.zero, i.size, i.bytes)) = some (some (.int .u32 0), 1, 4) := by kernel_rfl
structure S50 where
 f0 : Bool
 f1 : (List Int)
 f2 : (List Int)
def z50 : S50 := ⟨false, ([] : List Int), ([] : List Int)⟩
def k50 : Kd S50 := Kd.iso (Kd.pair Kd.bool (Kd.pair (Kd.slice 47 (Kd.int .u32)) (Kd.slice 47 (Kd.int .u32)))) (fun x : S50 => (x.f0, x.f1, x.f2))
theorem k50_open {w : World} {x : S50} {cs : List Value} (h : k50.K w x cs) : ∃ A1 c1 A2 c2, cs = [.bool x.f0, .slice A1 x.f1.length c1, .slice A2 x.f2.length c2] ∧ x.f1.length ≤ c1 ∧ (Kd.int .u32).C w A1 x.f1.length x.f1 ∧ x.f2.length ≤ c2 ∧ (Kd.int .u32).C w A2 x.f2.length x.f2 := by
 obtain ⟨_, _, rfl, rfl, ⟨_, _, rfl, ⟨A1, c1, rfl, l1, g1⟩, ⟨A2, c2, rfl, l2, g2⟩⟩⟩ := h
 exact ⟨A1, c1, A2, c2, rfl, l1, g1, l2, g2⟩
theorem k50_mk (w : World) (x : S50) {A1 : Option Addr} {c1 : Nat} (l1 : x.f1.length ≤ c1) (g1 : (Kd.int .u32).C w A1 x.f1.length x.f1) {A2 : Option Addr} {c2 : Nat} (l2 : x.f2.length ≤ c2) (g2 : (Kd.int .u32).C w A2 x.f2.length x.f2) : k50.K w x [.bool x.f0, .slice A1 x.f1.length c1, .slice A2 x.f2.length c2] := ⟨[.bool x.f0], [.slice A1 x.f1.length c1, .slice A2 x.f2.length c2], rfl, rfl, ⟨[.slice A1 x.f1.length c1], [.slice A2 x.f2.length c2], rfl, ⟨A1, c1, rfl, l1, g1⟩, ⟨A2, c2, rfl, l2, g2⟩⟩⟩
theorem k50_mkF (W : World) (ok : Nat → Prop) (x : S50) {A1 : Option Addr} {c1 : Nat} (l1 : x.f1.length ≤ c1) (g1 : Kd.F (Kd.int .u32) W ok A1 x.f1.length x.f1) {A2 : Option Addr} {c2 : Nat} (l2 : x.f2.length ≤ c2) (g2 : Kd.F (Kd.int .u32) W ok A2 x.f2.length x.f2) : Kd.FK k50 W ok x [.bool x.f0, .slice A1 x.f1.length c1, .slice A2 x.f2.length c2] := fun W2 hW => k50_mk W2 x l1 (g1 W2 hW) l2 (g2 W2 hW)
def rd_T50 (xs : List S50) (i : Int) : S50 := xs.getD i.toNat z50
theorem at_T50 {w : World} {A : Option Addr} {n : Nat} {xs : List S50} (h : Kd.C k50 w A n xs) (i : Int) (h0 : 0 ≤ i) (h1 : i < n) : ∃ ad A1 c1 A2 c2, A = some ad ∧ w.cell? (ad.add (i.toNat * 3)) = some (.bool (rd_T50 xs i).f0) ∧ w.cell? ⟨(ad.add (i.toNat * 3)).block, (ad.add (i.toNat * 3)).off + 1, none⟩ = some (.slice A1 (rd_T50 xs i).f1.length c1) ∧ w.cell? ⟨(ad.add (i.toNat * 3)).block, (ad.add (i.toNat * 3)).off + 2, none⟩ = some (.slice A2 (rd_T50 xs i).f2.length c2) ∧ (rd_T50 xs i).f1.length ≤ c1 ∧ (Kd.int .u32).C w A1 (rd_T50 xs i).f1.length (rd_T50 xs i).f1 ∧ (rd_T50 xs i).f2.length ≤ c2 ∧ (Kd.int .u32).C w A2 (rd_T50 xs i).f2.length (rd_T50 xs i).f2 := by
 obtain ⟨ad, c, e, _, hK, hc0⟩ := Kd.C_get h z50 i h0 h1
 have hc : ∀ j u, c[j]? = some u → w.cell? (ad.add (i.toNat * 3 + j)) = some u := hc0
 obtain ⟨A1, c1, A2, c2, rfl, l1, g1, l2, g2⟩ := k50_open hK
 exact ⟨ad, A1, c1, A2, c2, e, hc 0 _ rfl, by rw [← add_field _ _ 1 (by omega)]; exact hc 1 _ rfl, by rw [← add_field _ _ 2 (by omega)]; exact hc 2 _ rfl, l1, g1, l2, g2⟩
theorem Qa0 {p : Prop} (h : p := by repeat (first | (with_reducible first | exact HB.out | apply Zb | apply Za | apply Zc | refine Zd ?_ (Yt.out (by assumption))) | exact HB.out)) : p := h
theorem Qr1 {p q : Prop} (x : q) (h : q → p := by intro x_; (with_reducible repeat (first | apply Kd.Zf | apply Kd.Ze | apply Kd.Zj)); exact x_) : p := h x
theorem Qa2 {p : Prop} (h : p := by (try simp only [List.map_toArray, List.map_cons, List.map_nil]); first | done | rfl | (simp only [List.length_drop, List.length_take]; rfl)) : p := h
theorem Qa3 {p : Prop} (h : p := by first | (with_reducible assumption) | assumption) : p := h
theorem Qa4 {p : Prop} (h : p := by first | rfl | (simp [Zp, Zo] <;> rfl) | (simp [*, Zp, Zo] <;> rfl)) : p := h
theorem Qa5 {p : Prop} (h : p := by first | rfl | (simp; done) | (simp [*]; done)) : p := h
theorem Qa6 {p : Prop} (h : p := by repeat' first | (with_reducible exact LeO.refl _) | (with_reducible exact LeO.none _) | (with_reducible refine LeO.ite ?_ ?_) | (with_reducible refine LeO.bind ?_ (fun _ => ?_)) | (with_reducible solve_by_elim)) : p := h
theorem Qr7 {p q : Prop} (x : q) (h : q → p := by intro x_; (with_reducible repeat (first | apply Kd.Zz | apply Kd.Zy | apply Kd.Ye)); exact x_) : p := h x
theorem Qa8 {p : Prop} (h : p := by kernel_rfl) : p := h
theorem Qa9 {p : Prop} (h : p := by first | (go_simp; done) | (go_simp; rfl)) : p := h
theorem Qa10 {p : Prop} (h : p := by repeat (first | exact Drawn0.refl _ | apply Drawn0.step)) : p := h
theorem Qe11 {p q : Prop} (x : q) (h : q → p := by intro x_; repeat (first | exact x_ | (with_reducible refine Kd.Zu ?_ _) | (with_reducible refine Kd.Zt ?_ _) | (with_reducible refine Kd.Yc ?_))) : p := h x
theorem Qr12 {p q : Prop} (x : q) (h : q → p := by intro x_; (with_reducible repeat (first | refine Zg ?_ _ | refine Zi ?_ | refine Zh ?_ _)); exact x_) : p := h x
theorem Qr13 {p q : Prop} (x : q) (h : q → p := by intro x_; (with_reducible repeat (first | apply Kd.N_alloc | apply Kd.N_drewN | apply Kd.N_drew)); exact x_) : p := h x
theorem Qa14 {p : Prop} (h : p := by first | (simp only [putAll, Act.put, List.setIfInBounds_toArray, List.set_cons_zero, List.set_cons_succ]; done) | (simp only [putAll, Act.put, List.setIfInBounds_toArray, List.set_cons_zero, List.set_cons_succ]; rfl)) : p := h
theorem Qd {p : Prop} [Decidable p] (h : decide p = true := by first | (with_reducible assumption) | assumption) : p := of_decide_eq_true h
theorem Qh {α : Type} {a b : α} {p q : Prop} (hy : a = b) (H : q) (t : a = b → q → p := by intro hy_ H_; first | (rw [hy_]; with_reducible exact H_) | (have H2_ := (Option.bind_some _ _).symm.trans H_; rw [hy_]; with_reducible exact H2_) | (have H2_ := (Option.bind_some _ _).symm.trans H_; with_reducible exact H2_) | with_reducible exact H_ | (rw [hy_]; exact H_) | exact H_) : p := t hy H
def nats_Trim.l0 : Nat → List Int → Int → Option (List Int)
 | 0, _, _ => none
 | k + 1, x0, x3 => if x3 > 0 then (if 0 ≤ (wrap64 (x3 - 1)) then (if (wrap64 (x3 - 1)) < (x0.length : Int) then (if (rd x0 (wrap64 (x3 - 1))) = 0 then (nats_Trim.l0 k x0 (wrap64 (x3 - 1))) else (if 0 ≤ x3 then (if x3 ≤ (x0.length : Int) then (if ([] : List Int).length + (x0.take (x3 : Int).toNat).length < 35184372088832 then (some (([] : List Int) ++ (x0.take (x3 : Int).toNat))) else (none)) else (none)) else (none))) else (none)) else (none)) else (if 0 ≤ x3 then (if x3 ≤ (x0.length : Int) then (if ([] : List Int).length + (x0.take (x3 : Int).toNat).length < 35184372088832 then (some (([] : List Int) ++ (x0.take (x3 : Int).toNat))) else (none)) else (none)) else (none))
def nats_Trim.f (k : Nat) (l0 : List Int) : Option (List Int) := nats_Trim.l0 k l0 (l0.length : Int)
theorem nats_Trim.mono_l : ∀ k, (∀ y0 y1, LeO (nats_Trim.l0 k y0 y1) (nats_Trim.l0 (k + 1) y0 y1))
 | 0 => fun _ _ r h => by simp [nats_Trim.l0] at h
 | k + 1 => by
  have ih0 := nats_Trim.mono_l k
  ·intro y0 y1
   unfold nats_Trim.l0
   exact Qa6
theorem nats_Trim.mono : ∀ a0 k, LeO (nats_Trim.f k a0) (nats_Trim.f (k + 1) a0) := by
 intro a0 k
 have ih0 := nats_Trim.mono_l k
 unfold nats_Trim.f
 exact Qa6
theorem nats_Trim.calls (k : Nat) (A0 : Option Addr) (c0 : Nat) (l0 : List Int) (r : List Int) (w : World) (hr0 : Kd.C (Kd.int .u32) w A0 l0.length l0) (hc0 : l0.length ≤ c0) (h : nats_Trim.f k l0 = some r) :
  Calls Try.prog 90 #[.slice A0 l0.length c0] w fun e w' => ∃ v0_ : Value, e = .returned (v0_) ∧ Kd.R (Kd.int .u32) 47 w' w.heap.size (fun _ => True) v0_ r ∧ Below w.heap.size w w' := by
 have HR0 := Yt.mk hr0
 have HC0 := Yt.mk hc0
 clear hr0 hc0
 have HB := Yt.mk (Below.refl w.heap.size w)
 unfold nats_Trim.f at h
 have H := h
 clear h
 have H' := Yt.mk H
 clear H
 go_enter Try.func90, Try.ntmps90
 go_wp2
 go_loopg [3] k (fun kq v3 w' => ∃ (x3_1 : Int), v3 = .int .i64 x3_1 ∧ Yt (nats_Trim.l0 kq l0 x3_1 = some r) ∧ Yt (kq ≤ k) ∧ Yt (Below w.heap.size w w'))
 case atStart => exact ⟨((l0.length : Int)), Qa5, H', ⟨Nat.le_refl _⟩, ⟨Qa0⟩⟩
 case round =>
  clear H'
  obtain ⟨x3_1, rfl, HA, HK1, HB⟩ := hrel
  cases gk with
  | zero => exact absurd HA.out (by simp [nats_Trim.l0])
  | succ k1 =>
   have H := HA.out
   clear HA
   simp only [nats_Trim.l0] at H
   by_cases c2 : x3_1 > 0
   rotate_left
   ·rw [if_neg c2] at H
    have c2b0 : decide (0 < x3_1) = false := decide_eq_false c2
    clear c2
    by_cases c12 : 0 ≤ x3_1
    rotate_left
    ·rw [if_neg c12] at H
     exact absurd H (by simp)
    rw [if_pos c12] at H
    have c12b0 := eq_true c12
    have c12b1 : decide (0 ≤ x3_1) = true := decide_eq_true c12
    clear c12
    by_cases c13 : x3_1 ≤ (l0.length : Int)
    rotate_left
    ·rw [if_neg c13] at H
     exact absurd H (by simp)
    rw [if_pos c13] at H
    have c13b0 := eq_true c13
    have c13b1 : decide (x3_1 ≤ (l0.length : Int)) = true := decide_eq_true c13
    clear c13
    by_cases c14 : ([] : List Int).length + (l0.take (x3_1 : Int).toNat).length < 35184372088832
    rotate_left
    ·rw [if_neg c14] at H
     exact absurd H (by simp)
    rw [if_pos c14] at H
    have LMc14 := Yt.mk c14
    clear c14
    obtain ⟨y166, hy166⟩ : ∃ y_ : List Int, y_ = (([] : List Int) ++ (l0.take (x3_1 : Int).toNat)) := ⟨_, rfl⟩
    replace H : (some y166) = some r := Qh hy166 H
    have Ny166 := Yt.mk hy166
    clear hy166
    obtain rfl := Option.some.inj H
    obtain ⟨i015, hi015, _, hsz15, _⟩ := info_parts info47
    obtain ⟨hcut15, hA15, hC15⟩ := print_take_of (P := Try.prog) (Value.int .u32) 0 22 47 .i64 Try.underlying22 hi015 hsz15 A0 c0 l0 x3_1 (Qd) (Qd) HC0.out
    have HR165 := Yt.mk (Kd.C_of_reads (h1 := fun _ => rfl) (hA15 _ (Kd.reads_of_C HR0.out)))
    have HC165 := Yt.mk hC15
    clear hA15 hC15 hi015 hsz15
    go_wp2_with (first | ((with_reducible refine gate_builtin (b := .append) (xs := #[.const (.slice none 0 0), .tmp 20]) rfl ?_); at_builtin; refine Kd.R_append_rows (Kd.int .u32) (w0 := w) w.heap.size rfl (.const (.slice none 0 0)) (.tmp 20) 22 47 (.int .u32 0) 4 rfl Try.underlying22 info47 rfl (by decide) (by omega) (.slice none 0 0) ([] : List Int) (l0.take (x3_1 : Int).toNat) _ _ _ (fun _ => True) (fun _ => False) rfl rfl ?aO ?aR (fun _ _ h => h) (fun _ h => h.elim) ?aF ?aB ?aS ?aL ?_; (case aR => first | (have hc_ := (Kd.Ys HR165.out HB.out); rw [show (l0.take (x3_1 : Int).toNat).length = x3_1.toNat from (by rw [List.length_take]; have h_ : (x3_1 : Int) ≤ (l0.length : Int) := Qd; omega)] at hc_; repeat (first | exact hc_ | (with_reducible refine Kd.Zu ?_ _) | (with_reducible refine Kd.Zt ?_ _) | (with_reducible refine Kd.Yc ?_))) | (repeat (first | exact (Kd.Ys HR165.out HB.out) | (with_reducible refine Kd.Zu ?_ _) | (with_reducible refine Kd.Zt ?_ _) | (with_reducible refine Kd.Yc ?_)))); (case aB => exact (Qa0)); (case aF => exact (fun _ _ => trivial)); (case aO => exact ((Kd.R_nil _ _ _ _ (fun _ => True)))); (case aS => exact (Zk (Qa0))); (case aL => have := LMc14.out; have hlx_ := (show (l0.take (x3_1 : Int).toNat).length = x3_1.toNat from (by rw [List.length_take]; have h_ : (x3_1 : Int) ≤ (l0.length : Int) := Qd; omega)); omega); intro v167 w16 ho hb hg hat; rw [← Ny166.out] at ho; replace HB := Yt.mk (hb); have HO168 := Yt.mk (ho); clear ho hb hg hat))
    go_ret
    exact ⟨_, Qa4, Qr1 HO168.out, Qa0⟩
   rw [if_pos c2] at H
   have c2b0 : decide (0 < x3_1) = true := decide_eq_true c2
   clear c2
   obtain ⟨ji3, hji3⟩ : ∃ j_ : Int, (wrap64 (x3_1 - 1)) = j_ := ⟨_, rfl⟩
   replace H : (if 0 ≤ (ji3) then (if (ji3) < (l0.length : Int) then (if (rd l0 (ji3)) = 0 then (nats_Trim.l0 k1 l0 ji3) else (if 0 ≤ x3_1 then (if x3_1 ≤ (l0.length : Int) then (if ([] : List Int).length + (l0.take (x3_1 : Int).toNat).length < 35184372088832 then (some (([] : List Int) ++ (l0.take (x3_1 : Int).toNat))) else (none)) else (none)) else (none))) else (none)) else (none)) = some r := by first | (rw [hji3] at H; exact H) | (simp only [hji3] at H ⊢; exact H)
   have hji3w : (IntKind.i64.wrap (x3_1 - 1)) = ji3 := (Yi _).trans hji3
   by_cases c4 : 0 ≤ (ji3)
   rotate_left
   ·rw [if_neg c4] at H
    exact absurd H (by simp)
   rw [if_pos c4] at H
   have c4b0 : decide (0 ≤ (ji3)) = true := decide_eq_true c4
   clear c4
   by_cases c5 : (ji3) < (l0.length : Int)
   rotate_left
   ·rw [if_neg c5] at H
    exact absurd H (by simp)
   rw [if_pos c5] at H
   have c5b0 : decide ((ji3) < (l0.length : Int)) = true := decide_eq_true c5
   clear c5
   by_cases c6 : (rd l0 (ji3)) = 0
   ·rw [if_pos c6] at H
    have c6b0 : ((rd l0 (ji3)) == 0) = true := beq_iff_eq.mpr c6
    have c6b1 : ((rd l0 (ji3)) != 0) = false := bne_eq_false_iff_eq.mpr c6
    clear c6
    have H' := Yt.mk H
    clear H
    have p160 : 0 ≤ ((ji3) : Int) := Qd
    have q160 : (ji3) < (l0.length : Int) := Qd
    obtain ⟨ad160, e160, hx160_0⟩ := Kd.at_int HR0.out (ji3) p160 q160
    cases e160
    replace hx160_0 := (HB.out.cell (World.block_lt_of_cell? w _ hx160_0)).trans hx160_0
    replace p160 := eq_true p160
    replace q160 := eq_true q160
    go_wp2
    go_roundg k1
    case measure => have := HK1.out; omega
    case rel => exact ⟨(ji3), (by first | rfl | (simp; done) | (simp only [← hji3] <;> (first | rfl | simp)) | (simp [*]; done)), H', ⟨by have := HK1.out; omega⟩, ⟨Qa0⟩⟩
   rw [if_neg c6] at H
   have c6b0 : ((rd l0 (ji3)) == 0) = false := beq_eq_false_iff_ne.mpr c6
   have c6b1 : ((rd l0 (ji3)) != 0) = true := bne_iff_ne.mpr c6
   by_cases c7 : 0 ≤ x3_1
   rotate_left
   ·rw [if_neg c7] at H
    exact absurd H (by simp)
   rw [if_pos c7] at H
   have c7b0 := eq_true c7
   have c7b1 : decide (0 ≤ x3_1) = true := decide_eq_true c7
   clear c7
   by_cases c8 : x3_1 ≤ (l0.length : Int)
   rotate_left
   ·rw [if_neg c8] at H
    exact absurd H (by simp)
   rw [if_pos c8] at H
   have c8b0 := eq_true c8
   have c8b1 : decide (x3_1 ≤ (l0.length : Int)) = true := decide_eq_true c8
   clear c8
   by_cases c9 : ([] : List Int).length + (l0.take (x3_1 : Int).toNat).length < 35184372088832
   rotate_left
   ·rw [if_neg c9] at H
    exact absurd H (by simp)
   rw [if_pos c9] at H
   have LMc9 := Yt.mk c9
   clear c9
   obtain ⟨y162, hy162⟩ : ∃ y_ : List Int, y_ = (([] : List Int) ++ (l0.take (x3_1 : Int).toNat)) := ⟨_, rfl⟩
   replace H : (some y162) = some r := Qh hy162 H
   have Ny162 := Yt.mk hy162
   clear hy162
   obtain rfl := Option.some.inj H
   have p160 : 0 ≤ ((ji3) : Int) := Qd
   have q160 : (ji3) < (l0.length : Int) := Qd
   obtain ⟨ad160, e160, hx160_0⟩ := Kd.at_int HR0.out (ji3) p160 q160
   cases e160
   replace hx160_0 := (HB.out.cell (World.block_lt_of_cell? w _ hx160_0)).trans hx160_0
   replace p160 := eq_true p160
   replace q160 := eq_true q160
   obtain ⟨i010, hi010, _, hsz10, _⟩ := info_parts info47
   obtain ⟨hcut10, hA10, hC10⟩ := print_take_of (P := Try.prog) (Value.int .u32) 0 22 47 .i64 Try.underlying22 hi010 hsz10 (some ad160) c0 l0 x3_1 (Qd) (Qd) HC0.out
   have HR161 := Yt.mk (Kd.C_of_reads (h1 := fun _ => rfl) (hA10 _ (Kd.reads_of_C HR0.out)))
   have HC161 := Yt.mk hC10
   clear hA10 hC10 hi010 hsz10
   go_wp2_with (first | ((with_reducible refine gate_builtin (b := .append) (xs := #[.const (.slice none 0 0), .tmp 20]) rfl ?_); at_builtin; refine Kd.R_append_rows (Kd.int .u32) (w0 := w) w.heap.size rfl (.const (.slice none 0 0)) (.tmp 20) 22 47 (.int .u32 0) 4 rfl Try.underlying22 info47 rfl (by decide) (by omega) (.slice none 0 0) ([] : List Int) (l0.take (x3_1 : Int).toNat) _ _ _ (fun _ => True) (fun _ => False) rfl rfl ?aO ?aR (fun _ _ h => h) (fun _ h => h.elim) ?aF ?aB ?aS ?aL ?_; (case aR => first | (have hc_ := (Kd.Ys HR161.out HB.out); rw [show (l0.take (x3_1 : Int).toNat).length = x3_1.toNat from (by rw [List.length_take]; have h_ : (x3_1 : Int) ≤ (l0.length : Int) := Qd; omega)] at hc_; repeat (first | exact hc_ | (with_reducible refine Kd.Zu ?_ _) | (with_reducible refine Kd.Zt ?_ _) | (with_reducible refine Kd.Yc ?_))) | (repeat (first | exact (Kd.Ys HR161.out HB.out) | (with_reducible refine Kd.Zu ?_ _) | (with_reducible refine Kd.Zt ?_ _) | (with_reducible refine Kd.Yc ?_)))); (case aB => exact (Qa0)); (case aF => exact (fun _ _ => trivial)); (case aO => exact ((Kd.R_nil _ _ _ _ (fun _ => True)))); (case aS => exact (Zk (Qa0))); (case aL => have := LMc9.out; have hlx_ := (show (l0.take (x3_1 : Int).toNat).length = x3_1.toNat from (by rw [List.length_take]; have h_ : (x3_1 : Int) ≤ (l0.length : Int) := Qd; omega)); omega); intro v163 w11 ho hb hg hat; rw [← Ny162.out] at ho; replace HB := Yt.mk (hb); have HO164 := Yt.mk (ho); clear ho hb hg hat))
   go_ret
   exact ⟨_, by first | rfl | (simp [Zp, Zo] <;> rfl) | (simp only [← hji3]; first | rfl | (simp [Zp, Zo] <;> rfl)) | (simp [*, Zp, Zo] <;> rfl), Qr1 HO164.out, Qa0⟩
def nats_cut.l0 : Nat → List Int → Int → Option (List Int)
 | 0, _, _ => none
 | k + 1, x0, x3 => if x3 > 0 then (if 0 ≤ (wrap64 (x3 - 1)) then (if (wrap64 (x3 - 1)) < (x0.length : Int) then (if (rd x0 (wrap64 (x3 - 1))) = 0 then (nats_cut.l0 k x0 (wrap64 (x3 - 1))) else (if 0 ≤ x3 then (if x3 ≤ (x0.length : Int) then (some (x0.take (x3 : Int).toNat)) else (none)) else (none))) else (none)) else (none)) else (if 0 ≤ x3 then (if x3 ≤ (x0.length : Int) then (some (x0.take (x3 : Int).toNat)) else (none)) else (none))
def nats_cut.f (k : Nat) (l0 : List Int) : Option (List Int) := nats_cut.l0 k l0 (l0.length : Int)
theorem nats_cut.mono_l : ∀ k, (∀ y0 y1, LeO (nats_cut.l0 k y0 y1) (nats_cut.l0 (k + 1) y0 y1))
 | 0 => fun _ _ r h => by simp [nats_cut.l0] at h
 | k + 1 => by
  have ih0 := nats_cut.mono_l k
  ·intro y0 y1
   unfold nats_cut.l0
   exact Qa6
theorem nats_cut.mono : ∀ a0 k, LeO (nats_cut.f k a0) (nats_cut.f (k + 1) a0) := by
 intro a0 k
 have ih0 := nats_cut.mono_l k
 unfold nats_cut.f
 exact Qa6
theorem nats_cut.calls (k : Nat) (P0_ : Nat → Prop) (A0 : Option Addr) (c0 : Nat) (l0 : List Int) (r : List Int) (w : World) (hs0 : Kd.V (Kd.int .u32) 47 w w.heap.size (fun k_ => P0_ k_) (.slice A0 l0.length c0) l0) (h : nats_cut.f k l0 = some r) :
  Calls Try.prog 108 #[.slice A0 l0.length c0] w fun e w' => ∃ v0_ : Value, e = .returned (v0_) ∧ Kd.V (Kd.int .u32) 47 w' w.heap.size (fun k_ => (P0_ k_ ∨ w.heap.size ≤ k_)) v0_ r ∧ Below w.heap.size w w' := by
 have HO0 := Yt.mk (show Kd.V (Kd.int .u32) 47 w w.heap.size (fun k_ => (P0_ k_ ∨ w.heap.size ≤ k_)) (.slice A0 l0.length c0) l0 from Kd.Yp hs0 (fun k_ hk => .inl hk))
 have HB := Yt.mk (Below.refl w.heap.size w)
 unfold nats_cut.f at h
 have H := h
 clear h
 have H' := Yt.mk H
 clear H
 go_enter Try.func108, Try.ntmps108
 go_wp2
 go_loopg [3] k (fun kq v3 w' => ∃ (x3_1 : Int), v3 = .int .i64 x3_1 ∧ Yt (nats_cut.l0 kq l0 x3_1 = some r) ∧ Yt (kq ≤ k) ∧ Yt (Kd.V (Kd.int .u32) 47 w' w.heap.size (fun k_ => (P0_ k_ ∨ w.heap.size ≤ k_)) (.slice A0 l0.length c0) l0) ∧ Yt (Below w.heap.size w w'))
 case atStart => exact ⟨((l0.length : Int)), Qa5, H', ⟨Nat.le_refl _⟩, ⟨Qr7 HO0.out⟩, ⟨Qa0⟩⟩
 case round =>
  clear H'
  try clear c1
  obtain ⟨x3_1, rfl, HA, HK1, HO_0, HB⟩ := hrel
  cases gk with
  | zero => exact absurd HA.out (by simp [nats_cut.l0])
  | succ k1 =>
   have H := HA.out
   clear HA
   simp only [nats_cut.l0] at H
   by_cases c2 : x3_1 > 0
   rotate_left
   ·rw [if_neg c2] at H
    have c2b0 : decide (0 < x3_1) = false := decide_eq_false c2
    clear c2
    by_cases c10 : 0 ≤ x3_1
    rotate_left
    ·rw [if_neg c10] at H
     exact absurd H (by simp)
    rw [if_pos c10] at H
    have c10b0 := eq_true c10
    have c10b1 : decide (0 ≤ x3_1) = true := decide_eq_true c10
    clear c10
    by_cases c11 : x3_1 ≤ (l0.length : Int)
    rotate_left
    ·rw [if_neg c11] at H
     exact absurd H (by simp)
    rw [if_pos c11] at H
    have c11b0 := eq_true c11
    have c11b1 : decide (x3_1 ≤ (l0.length : Int)) = true := decide_eq_true c11
    clear c11
    obtain ⟨y107, hy107⟩ : ∃ y_ : List Int, y_ = (l0.take (x3_1 : Int).toNat) := ⟨_, rfl⟩
    replace H : (some y107) = some r := Qh hy107 H
    have Ny107 := Yt.mk hy107
    clear hy107
    obtain rfl := Option.some.inj H
    have q12 : (x3_1 : Int) ≤ ((l0.length : Int) : Int) := Qd
    obtain ⟨i012, hi012, _, hsz12, _⟩ := info_parts info47
    have hroom12 : l0.length ≤ c0 := (Kd.Yn HO_0.out).2.1
    have hC12 : Kd.F (Kd.int .u32) _ _ A0 l0.length l0 := (Kd.V_at (base := w.heap.size) HO_0.out).2.2
    have hcut12 := cut_to (P := Try.prog) 22 47 .i64 Try.underlying22 hi012 A0 l0.length c0 x3_1 (Qd) q12 hroom12
    have hr12 := Kd.F_take (m := (x3_1 : Int).toNat) hC12 (by omega)
    have hy12 : y107.length = (x3_1 : Int).toNat := (by rw [Ny107.out, List.length_take]; omega)
    rw [← Ny107.out] at hr12
    rw [← hy12] at hcut12
    have HO111 := Yt.mk (show Kd.V (Kd.int .u32) 47 _ w.heap.size _ (.slice A0 y107.length c0) y107 from Kd.V_mk (by omega) hr12)
    have HC111 := Yt.mk (show y107.length ≤ c0 from by omega)
    clear hr12 hC12 hroom12 hi012 hsz12
    have KY12 := Yt.mk hy12
    clear hy12
    replace q12 := eq_true q12
    go_wp2
    go_ret
    exact ⟨_, Qa4, Qr7 HO111.out, Qa0⟩
   rw [if_pos c2] at H
   have c2b0 : decide (0 < x3_1) = true := decide_eq_true c2
   clear c2
   obtain ⟨ji3, hji3⟩ : ∃ j_ : Int, (wrap64 (x3_1 - 1)) = j_ := ⟨_, rfl⟩
   replace H : (if 0 ≤ (ji3) then (if (ji3) < (l0.length : Int) then (if (rd l0 (ji3)) = 0 then (nats_cut.l0 k1 l0 ji3) else (if 0 ≤ x3_1 then (if x3_1 ≤ (l0.length : Int) then (some (l0.take (x3_1 : Int).toNat)) else (none)) else (none))) else (none)) else (none)) = some r := by first | (rw [hji3] at H; exact H) | (simp only [hji3] at H ⊢; exact H)
   have hji3w : (IntKind.i64.wrap (x3_1 - 1)) = ji3 := (Yi _).trans hji3
   by_cases c4 : 0 ≤ (ji3)
   rotate_left
   ·rw [if_neg c4] at H
    exact absurd H (by simp)
   rw [if_pos c4] at H
   have c4b0 : decide (0 ≤ (ji3)) = true := decide_eq_true c4
   clear c4
   by_cases c5 : (ji3) < (l0.length : Int)
   rotate_left
   ·rw [if_neg c5] at H
    exact absurd H (by simp)
   rw [if_pos c5] at H
   have c5b0 : decide ((ji3) < (l0.length : Int)) = true := decide_eq_true c5
   clear c5
   by_cases c6 : (rd l0 (ji3)) = 0
   ·rw [if_pos c6] at H
    have c6b0 : ((rd l0 (ji3)) == 0) = true := beq_iff_eq.mpr c6
    have c6b1 : ((rd l0 (ji3)) != 0) = false := bne_eq_false_iff_eq.mpr c6
    clear c6
    have H' := Yt.mk H
    clear H
    have p101 : 0 ≤ ((ji3) : Int) := Qd
    have q101 : (ji3) < (l0.length : Int) := Qd
    obtain ⟨ad101, e101, hx101_0⟩ := Kd.at_int (Kd.Yn HO_0.out).2.2 (ji3) p101 q101
    cases e101
    replace p101 := eq_true p101
    replace q101 := eq_true q101
    go_wp2
    go_roundg k1
    case measure => have := HK1.out; omega
    case rel => exact ⟨(ji3), (by first | rfl | (simp; done) | (simp only [← hji3] <;> (first | rfl | simp)) | (simp [*]; done)), H', ⟨by have := HK1.out; omega⟩, ⟨Qr7 HO_0.out⟩, ⟨Qa0⟩⟩
   rw [if_neg c6] at H
   have c6b0 : ((rd l0 (ji3)) == 0) = false := beq_eq_false_iff_ne.mpr c6
   have c6b1 : ((rd l0 (ji3)) != 0) = true := bne_iff_ne.mpr c6
   by_cases c7 : 0 ≤ x3_1
   rotate_left
   ·rw [if_neg c7] at H
    exact absurd H (by simp)
   rw [if_pos c7] at H
   have c7b0 := eq_true c7
   have c7b1 : decide (0 ≤ x3_1) = true := decide_eq_true c7
   clear c7
   by_cases c8 : x3_1 ≤ (l0.length : Int)
   rotate_left
   ·rw [if_neg c8] at H
    exact absurd H (by simp)
   rw [if_pos c8] at H
   have c8b0 := eq_true c8
   have c8b1 : decide (x3_1 ≤ (l0.length : Int)) = true := decide_eq_true c8
   clear c8
   obtain ⟨y102, hy102⟩ : ∃ y_ : List Int, y_ = (l0.take (x3_1 : Int).toNat) := ⟨_, rfl⟩
   replace H : (some y102) = some r := Qh hy102 H
   have Ny102 := Yt.mk hy102
   clear hy102
   obtain rfl := Option.some.inj H
   have p101 : 0 ≤ ((ji3) : Int) := Qd
   have q101 : (ji3) < (l0.length : Int) := Qd
   obtain ⟨ad101, e101, hx101_0⟩ := Kd.at_int (Kd.Yn HO_0.out).2.2 (ji3) p101 q101
   cases e101
   replace p101 := eq_true p101
   replace q101 := eq_true q101
   have q9 : (x3_1 : Int) ≤ ((l0.length : Int) : Int) := Qd
   obtain ⟨i09, hi09, _, hsz9, _⟩ := info_parts info47
   have hroom9 : l0.length ≤ c0 := (Kd.Yn HO_0.out).2.1
   have hC9 : Kd.F (Kd.int .u32) _ _ (some ad101) l0.length l0 := (Kd.V_at (base := w.heap.size) HO_0.out).2.2
   have hcut9 := cut_to (P := Try.prog) 22 47 .i64 Try.underlying22 hi09 (some ad101) l0.length c0 x3_1 (Qd) q9 hroom9
   have hr9 := Kd.F_take (m := (x3_1 : Int).toNat) hC9 (by omega)
   have hy9 : y102.length = (x3_1 : Int).toNat := (by rw [Ny102.out, List.length_take]; omega)
   rw [← Ny102.out] at hr9
   rw [← hy9] at hcut9
   have HO106 := Yt.mk (show Kd.V (Kd.int .u32) 47 _ w.heap.size _ (.slice (some ad101) y102.length c0) y102 from Kd.V_mk (by omega) hr9)
   have HC106 := Yt.mk (show y102.length ≤ c0 from by omega)
   clear hr9 hC9 hroom9 hi09 hsz9
   have KY9 := Yt.mk hy9
   clear hy9
   replace q9 := eq_true q9
   go_wp2
   go_ret
   exact ⟨_, by first | rfl | (simp [Zp, Zo] <;> rfl) | (simp only [← hji3]; first | rfl | (simp [Zp, Zo] <;> rfl)) | (simp [*, Zp, Zo] <;> rfl), Qr7 HO106.out, Qa0⟩
def nats_cuto.l0 : Nat → List Int → Int → Option (List Int)
 | 0, _, _ => none
 | k + 1, x0, x3 => if x3 > 0 then (if 0 ≤ (wrap64 (x3 - 1)) then (if (wrap64 (x3 - 1)) < (x0.length : Int) then (if (rd x0 (wrap64 (x3 - 1))) = 0 then (nats_cuto.l0 k x0 (wrap64 (x3 - 1))) else (if 0 ≤ x3 then (if x3 ≤ (x0.length : Int) then (some (x0.take (x3 : Int).toNat)) else (none)) else (none))) else (none)) else (none)) else (if 0 ≤ x3 then (if x3 ≤ (x0.length : Int) then (some (x0.take (x3 : Int).toNat)) else (none)) else (none))
def nats_cuto.f (k : Nat) (l0 : List Int) : Option (List Int) := nats_cuto.l0 k l0 (l0.length : Int)
theorem nats_cuto.mono_l : ∀ k, (∀ y0 y1, LeO (nats_cuto.l0 k y0 y1) (nats_cuto.l0 (k + 1) y0 y1))
 | 0 => fun _ _ r h => by simp [nats_cuto.l0] at h
 | k + 1 => by
  have ih0 := nats_cuto.mono_l k
  ·intro y0 y1
   unfold nats_cuto.l0
   exact Qa6
theorem nats_cuto.mono : ∀ a0 k, LeO (nats_cuto.f k a0) (nats_cuto.f (k + 1) a0) := by
 intro a0 k
 have ih0 := nats_cuto.mono_l k
 unfold nats_cuto.f
 exact Qa6
theorem nats_cuto.calls (k : Nat) (P0_ : Nat → Prop) (u9000_ : Value) (l0 : List Int) (r : List Int) (w0 w : World) (hB : Below w0.heap.size w0 w) (ho0 : Kd.R (Kd.int .u32) 47 w w0.heap.size P0_ u9000_ l0) (h : nats_cuto.f k l0 = some r) :
  Calls Try.prog 108 #[u9000_] w fun e w' => ∃ v0_ : Value, e = .returned (v0_) ∧ Kd.R (Kd.int .u32) 47 w' w0.heap.size (fun k_ => (P0_ k_ ∨ w.heap.size ≤ k_)) v0_ r ∧ Below w0.heap.size w0 w' ∧ Kept w w' (fun k_ => P0_ k_) := by
 have HO0 := Yt.mk (show Kd.R (Kd.int .u32) 47 w w0.heap.size (fun k_ => (P0_ k_ ∨ w.heap.size ≤ k_)) u9000_ l0 from Kd.Zv ho0 (fun k_ hk => (.inl hk)))
 have HK := Yt.mk (Kept.refl w (fun k_ => P0_ k_))
 have HW0 := Yt.mk hB.size
 have HB := Yt.mk hB
 clear hB
 unfold nats_cuto.f at h
 have H := h
 clear h
 have H' := Yt.mk H
 clear H
 obtain ⟨Ao2, co2, eo2⟩ := Kd.Zx HO0.out
 subst eo2
 go_enter Try.func108, Try.ntmps108
 go_wp2
 go_loopg [3] k (fun kq v3 w' => ∃ (x3_1 : Int), v3 = .int .i64 x3_1 ∧ Yt (nats_cuto.l0 kq l0 x3_1 = some r) ∧ Yt (kq ≤ k) ∧ Yt (Kd.R (Kd.int .u32) 47 w' w0.heap.size (fun k_ => (P0_ k_ ∨ w.heap.size ≤ k_)) (.slice Ao2 l0.length co2) l0) ∧ Yt (Kept w w' (fun k_ => P0_ k_)) ∧ Yt (Below w0.heap.size w0 w'))
 case atStart => exact ⟨((l0.length : Int)), Qa5, H', ⟨Nat.le_refl _⟩, ⟨Qr1 HO0.out⟩, ⟨by repeat (first | (with_reducible first | exact HK.out | apply Kept.alloc | apply Kept.drewN | apply Kept.drew) | exact HK.out)⟩, ⟨Qa0⟩⟩
 case round =>
  clear H'
  try clear c1; try clear p2
  obtain ⟨x3_1, rfl, HA, HK1, HO_0, HK, HB⟩ := hrel
  cases gk with
  | zero => exact absurd HA.out (by simp [nats_cuto.l0])
  | succ k1 =>
   have H := HA.out
   clear HA
   simp only [nats_cuto.l0] at H
   by_cases c3 : x3_1 > 0
   rotate_left
   ·rw [if_neg c3] at H
    have c3b0 : decide (0 < x3_1) = false := decide_eq_false c3
    clear c3
    by_cases c11 : 0 ≤ x3_1
    rotate_left
    ·rw [if_neg c11] at H
     exact absurd H (by simp)
    rw [if_pos c11] at H
    have c11b0 := eq_true c11
    have c11b1 : decide (0 ≤ x3_1) = true := decide_eq_true c11
    clear c11
    by_cases c12 : x3_1 ≤ (l0.length : Int)
    rotate_left
    ·rw [if_neg c12] at H
     exact absurd H (by simp)
    rw [if_pos c12] at H
    have c12b0 := eq_true c12
    have c12b1 : decide (x3_1 ≤ (l0.length : Int)) = true := decide_eq_true c12
    clear c12
    obtain ⟨y116, hy116⟩ : ∃ y_ : List Int, y_ = (l0.take (x3_1 : Int).toNat) := ⟨_, rfl⟩
    replace H : (some y116) = some r := Qh hy116 H
    have Ny116 := Yt.mk hy116
    clear hy116
    obtain rfl := Option.some.inj H
    have q13 : (x3_1 : Int) ≤ ((l0.length : Int) : Int) := Qd
    obtain ⟨i013, hi013, _, hsz13, _⟩ := info_parts info47
    have hcut13 := cut_to (P := Try.prog) 22 47 .i64 Try.underlying22 hi013 Ao2 l0.length co2 x3_1 (Qd) q13 (Kd.Zs HO_0.out).2.1
    have hr13 := Kd.R_take (m := (x3_1 : Int).toNat) HO_0.out (by omega)
    have hy13 : y116.length = (x3_1 : Int).toNat := (by rw [Ny116.out, List.length_take]; omega)
    rw [← Ny116.out] at hr13
    rw [← hy13] at hr13 hcut13
    clear hy13 hi013 hsz13 HO_0
    have HO118 := Yt.mk hr13
    clear hr13
    replace q13 := eq_true q13
    go_wp2
    go_ret
    exact ⟨_, Qa4, Qr1 HO118.out, Qa0, by repeat (first | (with_reducible first | exact HK.out | apply Kept.alloc | apply Kept.drewN | apply Kept.drew) | exact HK.out)⟩
   rw [if_pos c3] at H
   have c3b0 : decide (0 < x3_1) = true := decide_eq_true c3
   clear c3
   obtain ⟨ji4, hji4⟩ : ∃ j_ : Int, (wrap64 (x3_1 - 1)) = j_ := ⟨_, rfl⟩
   replace H : (if 0 ≤ (ji4) then (if (ji4) < (l0.length : Int) then (if (rd l0 (ji4)) = 0 then (nats_cuto.l0 k1 l0 ji4) else (if 0 ≤ x3_1 then (if x3_1 ≤ (l0.length : Int) then (some (l0.take (x3_1 : Int).toNat)) else (none)) else (none))) else (none)) else (none)) = some r := by first | (rw [hji4] at H; exact H) | (simp only [hji4] at H ⊢; exact H)
   have hji4w : (IntKind.i64.wrap (x3_1 - 1)) = ji4 := (Yi _).trans hji4
   by_cases c5 : 0 ≤ (ji4)
   rotate_left
   ·rw [if_neg c5] at H
    exact absurd H (by simp)
   rw [if_pos c5] at H
   have c5b0 : decide (0 ≤ (ji4)) = true := decide_eq_true c5
   clear c5
   by_cases c6 : (ji4) < (l0.length : Int)
   rotate_left
   ·rw [if_neg c6] at H
    exact absurd H (by simp)
   rw [if_pos c6] at H
   have c6b0 : decide ((ji4) < (l0.length : Int)) = true := decide_eq_true c6
   clear c6
   by_cases c7 : (rd l0 (ji4)) = 0
   ·rw [if_pos c7] at H
    have c7b0 : ((rd l0 (ji4)) == 0) = true := beq_iff_eq.mpr c7
    have c7b1 : ((rd l0 (ji4)) != 0) = false := bne_eq_false_iff_eq.mpr c7
    clear c7
    have H' := Yt.mk H
    clear H
    have p112 : 0 ≤ ((ji4) : Int) := Qd
    have q112 : (ji4) < (l0.length : Int) := Qd
    obtain ⟨ad112, e112, hx112_0⟩ := Kd.at_int (Kd.Zs HO_0.out).2.2 (ji4) p112 q112
    cases e112
    replace p112 := eq_true p112
    replace q112 := eq_true q112
    go_wp2
    go_roundg k1
    case measure => have := HK1.out; omega
    case rel => exact ⟨(ji4), (by first | rfl | (simp; done) | (simp only [← hji4] <;> (first | rfl | simp)) | (simp [*]; done)), H', ⟨by have := HK1.out; omega⟩, ⟨Qr1 HO_0.out⟩, ⟨by repeat (first | (with_reducible first | exact HK.out | apply Kept.alloc | apply Kept.drewN | apply Kept.drew) | exact HK.out)⟩, ⟨Qa0⟩⟩
   rw [if_neg c7] at H
   have c7b0 : ((rd l0 (ji4)) == 0) = false := beq_eq_false_iff_ne.mpr c7
   have c7b1 : ((rd l0 (ji4)) != 0) = true := bne_iff_ne.mpr c7
   by_cases c8 : 0 ≤ x3_1
   rotate_left
   ·rw [if_neg c8] at H
    exact absurd H (by simp)
   rw [if_pos c8] at H
   have c8b0 := eq_true c8
   have c8b1 : decide (0 ≤ x3_1) = true := decide_eq_true c8
   clear c8
   by_cases c9 : x3_1 ≤ (l0.length : Int)
   rotate_left
   ·rw [if_neg c9] at H
    exact absurd H (by simp)
   rw [if_pos c9] at H
   have c9b0 := eq_true c9
   have c9b1 : decide (x3_1 ≤ (l0.length : Int)) = true := decide_eq_true c9
   clear c9
   obtain ⟨y113, hy113⟩ : ∃ y_ : List Int, y_ = (l0.take (x3_1 : Int).toNat) := ⟨_, rfl⟩
   replace H : (some y113) = some r := Qh hy113 H
   have Ny113 := Yt.mk hy113
   clear hy113
   obtain rfl := Option.some.inj H
   have p112 : 0 ≤ ((ji4) : Int) := Qd
   have q112 : (ji4) < (l0.length : Int) := Qd
   obtain ⟨ad112, e112, hx112_0⟩ := Kd.at_int (Kd.Zs HO_0.out).2.2 (ji4) p112 q112
   cases e112
   replace p112 := eq_true p112
   replace q112 := eq_true q112
   have q10 : (x3_1 : Int) ≤ ((l0.length : Int) : Int) := Qd
   obtain ⟨i010, hi010, _, hsz10, _⟩ := info_parts info47
   have hcut10 := cut_to (P := Try.prog) 22 47 .i64 Try.underlying22 hi010 (some ad112) l0.length co2 x3_1 (Qd) q10 (Kd.Zs HO_0.out).2.1
   have hr10 := Kd.R_take (m := (x3_1 : Int).toNat) HO_0.out (by omega)
   have hy10 : y113.length = (x3_1 : Int).toNat := (by rw [Ny113.out, List.length_take]; omega)
   rw [← Ny113.out] at hr10
   rw [← hy10] at hr10 hcut10
   clear hy10 hi010 hsz10 HO_0
   have HO115 := Yt.mk hr10
   clear hr10
   replace q10 := eq_true q10
   go_wp2
   go_ret
   exact ⟨_, by first | rfl | (simp [Zp, Zo] <;> rfl) | (simp only [← hji4]; first | rfl | (simp [Zp, Zo] <;> rfl)) | (simp [*, Zp, Zo] <;> rfl), Qr1 HO115.out, Qa0, by repeat (first | (with_reducible first | exact HK.out | apply Kept.alloc | apply Kept.drewN | apply Kept.drew) | exact HK.out)⟩
def nats_Cmp.l0 : Nat → List Int → List Int → Int → Option (Int)
 | 0, _, _, _ => none
 | k + 1, x0, x1, x5 => if x5 ≥ 0 then (if 0 ≤ x5 then (if x5 < (x0.length : Int) then (if x5 < (x1.length : Int) then (if (rd x0 x5) = (rd x1 x5) then (nats_Cmp.l0 k x0 x1 (wrap64 (x5 - 1))) else (if (rd x0 x5) < (rd x1 x5) then (some (-1)) else (some 1))) else (none)) else (none)) else (none)) else (some 0)
def nats_Cmp.f (k : Nat) (l0 : List Int) (l1 : List Int) : Option (Int) := (nats_cut.f k l0).bind fun t150 => ((nats_cut.f k l1).bind fun t153 => (if (t150.length : Int) = (t153.length : Int) then (nats_Cmp.l0 k t150 t153 (wrap64 ((t150.length : Int) - 1))) else (if (t150.length : Int) < (t153.length : Int) then (some (-1)) else (some 1))))
theorem nats_Cmp.mono_l : ∀ k, (∀ y0 y1 y2, LeO (nats_Cmp.l0 k y0 y1 y2) (nats_Cmp.l0 (k + 1) y0 y1 y2))
 | 0 => fun _ _ _ r h => by simp [nats_Cmp.l0] at h
 | k + 1 => by
  have ih0 := nats_Cmp.mono_l k
  ·intro y0 y1 y2
   unfold nats_Cmp.l0
   have m0 := @nats_cut.mono
   exact Qa6
theorem nats_Cmp.mono : ∀ a0 a1 k, LeO (nats_Cmp.f k a0 a1) (nats_Cmp.f (k + 1) a0 a1) := by
 intro a0 a1 k
 have ih0 := nats_Cmp.mono_l k
 unfold nats_Cmp.f
 have m0 := @nats_cut.mono
 exact Qa6
theorem nats_Cmp.calls (k : Nat) (A0 : Option Addr) (c0 : Nat) (l0 : List Int) (A1 : Option Addr) (c1 : Nat) (l1 : List Int) (r : Int) (w : World) (hr0 : Kd.C (Kd.int .u32) w A0 l0.length l0) (hc0 : l0.length ≤ c0) (hr1 : Kd.C (Kd.int .u32) w A1 l1.length l1) (hc1 : l1.length ≤ c1) (h : nats_Cmp.f k l0 l1 = some r) :
  Calls Try.prog 89 #[.slice A0 l0.length c0, .slice A1 l1.length c1] w fun e w' => e = .returned (.int .i64 r) ∧ Below w.heap.size w w' := by
 have HR0 := Yt.mk hr0
 have HC0 := Yt.mk hc0
 clear hr0 hc0
 have HR1 := Yt.mk hr1
 have HC1 := Yt.mk hc1
 clear hr1 hc1
 have HB := Yt.mk (Below.refl w.heap.size w)
 unfold nats_Cmp.f at h
 have H := h
 clear h
 replace H := Option.bind_eq_some_iff.mp H
 obtain ⟨t150, A30, H⟩ := H
 try dsimp only at H
 have A3 := Yt.mk A30
 clear A30
 replace H := Option.bind_eq_some_iff.mp H
 obtain ⟨t153, A40, H⟩ := H
 try dsimp only at H
 have A4 := Yt.mk A40
 clear A40
 by_cases c5 : (t150.length : Int) = (t153.length : Int)
 rotate_left
 ·rw [if_neg c5] at H
  have c5b0 : ((t150.length : Int) == (t153.length : Int)) = false := beq_eq_false_iff_ne.mpr c5
  have c5b1 : ((t150.length : Int) != (t153.length : Int)) = true := bne_iff_ne.mpr c5
  have c5b2 : (t150.length == t153.length) = false := by first | simpa using c5 | (simp at c5 ⊢; omega)
  by_cases c16 : (t150.length : Int) < (t153.length : Int)
  ·rw [if_pos c16] at H
   have c16b0 : decide ((t150.length : Int) < (t153.length : Int)) = true := decide_eq_true c16
   have c16b1 : decide (t150.length < t153.length) = true := decide_eq_true (Int.ofNat_lt.mp c16)
   clear c16
   obtain rfl := Option.some.inj H
   go_enter Try.func89, Try.ntmps89
   go_wp2_with (first | (go_at_call 108; (with_reducible refine (nats_cut.calls k (fun k_ => k_ < w.heap.size) _ _ l0 t150 _ ?side1 A3.out).mono ?_); (case side1 => exact Kd.V_mk HC0.out (Kd.F_below (Kd.C_F (Kd.heap_int .u32) HR0.out) (Qa0))); rintro e w17 ⟨v151, rfl, ho0, hb⟩; have HO152 := Yt.mk (Kd.V_lower (Kd.Yp (ok' := fun k_ => True) ho0 (fun k_ hk_ => trivial)) (Zk (Qa0))); replace HB := Yt.mk (Zm (Qa0) hb); (try clear hb); (try clear ho0); clear A3) | (go_at_call 108; (with_reducible refine (nats_cut.calls k (fun k_ => k_ < w.heap.size) _ _ l1 t153 _ ?side1 A4.out).mono ?_); (case side1 => exact Kd.V_mk HC1.out (Kd.F_below (Kd.C_F (Kd.heap_int .u32) HR1.out) (Qa0))); rintro e w18 ⟨v154, rfl, ho0, hb⟩; replace HO152 := Yt.mk (Kd.Yr (Qr7 HO152.out) hb); have HO155 := Yt.mk (Kd.V_lower (Kd.Yp (ok' := fun k_ => True) ho0 (fun k_ hk_ => trivial)) (Zk (Qa0))); replace HB := Yt.mk (Zm (Qa0) hb); (try clear hb); (try clear ho0); obtain ⟨Ao19, co19, eo19⟩ := Kd.V_slice HO152.out; subst eo19; obtain ⟨Ao20, co20, eo20⟩ := Kd.V_slice HO155.out; subst eo20; clear A4))
   repeat (go_quiet (first | (go_at_call 108; (with_reducible refine (nats_cut.calls k (fun k_ => k_ < w.heap.size) _ _ l0 t150 _ ?side1 A3.out).mono ?_); (case side1 => exact Kd.V_mk HC0.out (Kd.F_below (Kd.C_F (Kd.heap_int .u32) HR0.out) (Qa0))); rintro e w17 ⟨v151, rfl, ho0, hb⟩; have HO152 := Yt.mk (Kd.V_lower (Kd.Yp (ok' := fun k_ => True) ho0 (fun k_ hk_ => trivial)) (Zk (Qa0))); replace HB := Yt.mk (Zm (Qa0) hb); (try clear hb); (try clear ho0); clear A3) | (go_at_call 108; (with_reducible refine (nats_cut.calls k (fun k_ => k_ < w.heap.size) _ _ l1 t153 _ ?side1 A4.out).mono ?_); (case side1 => exact Kd.V_mk HC1.out (Kd.F_below (Kd.C_F (Kd.heap_int .u32) HR1.out) (Qa0))); rintro e w18 ⟨v154, rfl, ho0, hb⟩; replace HO152 := Yt.mk (Kd.Yr (Qr7 HO152.out) hb); have HO155 := Yt.mk (Kd.V_lower (Kd.Yp (ok' := fun k_ => True) ho0 (fun k_ hk_ => trivial)) (Zk (Qa0))); replace HB := Yt.mk (Zm (Qa0) hb); (try clear hb); (try clear ho0); obtain ⟨Ao19, co19, eo19⟩ := Kd.V_slice HO152.out; subst eo19; obtain ⟨Ao20, co20, eo20⟩ := Kd.V_slice HO155.out; subst eo20; clear A4)); try go_wp2_with (first | (go_at_call 108; (with_reducible refine (nats_cut.calls k (fun k_ => k_ < w.heap.size) _ _ l0 t150 _ ?side1 A3.out).mono ?_); (case side1 => exact Kd.V_mk HC0.out (Kd.F_below (Kd.C_F (Kd.heap_int .u32) HR0.out) (Qa0))); rintro e w17 ⟨v151, rfl, ho0, hb⟩; have HO152 := Yt.mk (Kd.V_lower (Kd.Yp (ok' := fun k_ => True) ho0 (fun k_ hk_ => trivial)) (Zk (Qa0))); replace HB := Yt.mk (Zm (Qa0) hb); (try clear hb); (try clear ho0); clear A3) | (go_at_call 108; (with_reducible refine (nats_cut.calls k (fun k_ => k_ < w.heap.size) _ _ l1 t153 _ ?side1 A4.out).mono ?_); (case side1 => exact Kd.V_mk HC1.out (Kd.F_below (Kd.C_F (Kd.heap_int .u32) HR1.out) (Qa0))); rintro e w18 ⟨v154, rfl, ho0, hb⟩; replace HO152 := Yt.mk (Kd.Yr (Qr7 HO152.out) hb); have HO155 := Yt.mk (Kd.V_lower (Kd.Yp (ok' := fun k_ => True) ho0 (fun k_ hk_ => trivial)) (Zk (Qa0))); replace HB := Yt.mk (Zm (Qa0) hb); (try clear hb); (try clear ho0); obtain ⟨Ao19, co19, eo19⟩ := Kd.V_slice HO152.out; subst eo19; obtain ⟨Ao20, co20, eo20⟩ := Kd.V_slice HO155.out; subst eo20; clear A4)))
   go_ret
   exact ⟨Qa4, Qa0⟩
  rw [if_neg c16] at H
  have c16b0 : decide ((t150.length : Int) < (t153.length : Int)) = false := decide_eq_false c16
  have c16b1 : decide (t150.length < t153.length) = false := decide_eq_false (fun h => c16 (Int.ofNat_lt.mpr h))
  clear c16
  obtain rfl := Option.some.inj H
  go_enter Try.func89, Try.ntmps89
  go_wp2_with (first | (go_at_call 108; (with_reducible refine (nats_cut.calls k (fun k_ => k_ < w.heap.size) _ _ l0 t150 _ ?side1 A3.out).mono ?_); (case side1 => exact Kd.V_mk HC0.out (Kd.F_below (Kd.C_F (Kd.heap_int .u32) HR0.out) (Qa0))); rintro e w21 ⟨v151, rfl, ho0, hb⟩; have HO152 := Yt.mk (Kd.V_lower (Kd.Yp (ok' := fun k_ => True) ho0 (fun k_ hk_ => trivial)) (Zk (Qa0))); replace HB := Yt.mk (Zm (Qa0) hb); (try clear hb); (try clear ho0); clear A3) | (go_at_call 108; (with_reducible refine (nats_cut.calls k (fun k_ => k_ < w.heap.size) _ _ l1 t153 _ ?side1 A4.out).mono ?_); (case side1 => exact Kd.V_mk HC1.out (Kd.F_below (Kd.C_F (Kd.heap_int .u32) HR1.out) (Qa0))); rintro e w22 ⟨v154, rfl, ho0, hb⟩; replace HO152 := Yt.mk (Kd.Yr (Qr7 HO152.out) hb); have HO155 := Yt.mk (Kd.V_lower (Kd.Yp (ok' := fun k_ => True) ho0 (fun k_ hk_ => trivial)) (Zk (Qa0))); replace HB := Yt.mk (Zm (Qa0) hb); (try clear hb); (try clear ho0); obtain ⟨Ao23, co23, eo23⟩ := Kd.V_slice HO152.out; subst eo23; obtain ⟨Ao24, co24, eo24⟩ := Kd.V_slice HO155.out; subst eo24; clear A4))
  repeat (go_quiet (first | (go_at_call 108; (with_reducible refine (nats_cut.calls k (fun k_ => k_ < w.heap.size) _ _ l0 t150 _ ?side1 A3.out).mono ?_); (case side1 => exact Kd.V_mk HC0.out (Kd.F_below (Kd.C_F (Kd.heap_int .u32) HR0.out) (Qa0))); rintro e w21 ⟨v151, rfl, ho0, hb⟩; have HO152 := Yt.mk (Kd.V_lower (Kd.Yp (ok' := fun k_ => True) ho0 (fun k_ hk_ => trivial)) (Zk (Qa0))); replace HB := Yt.mk (Zm (Qa0) hb); (try clear hb); (try clear ho0); clear A3) | (go_at_call 108; (with_reducible refine (nats_cut.calls k (fun k_ => k_ < w.heap.size) _ _ l1 t153 _ ?side1 A4.out).mono ?_); (case side1 => exact Kd.V_mk HC1.out (Kd.F_below (Kd.C_F (Kd.heap_int .u32) HR1.out) (Qa0))); rintro e w22 ⟨v154, rfl, ho0, hb⟩; replace HO152 := Yt.mk (Kd.Yr (Qr7 HO152.out) hb); have HO155 := Yt.mk (Kd.V_lower (Kd.Yp (ok' := fun k_ => True) ho0 (fun k_ hk_ => trivial)) (Zk (Qa0))); replace HB := Yt.mk (Zm (Qa0) hb); (try clear hb); (try clear ho0); obtain ⟨Ao23, co23, eo23⟩ := Kd.V_slice HO152.out; subst eo23; obtain ⟨Ao24, co24, eo24⟩ := Kd.V_slice HO155.out; subst eo24; clear A4)); try go_wp2_with (first | (go_at_call 108; (with_reducible refine (nats_cut.calls k (fun k_ => k_ < w.heap.size) _ _ l0 t150 _ ?side1 A3.out).mono ?_); (case side1 => exact Kd.V_mk HC0.out (Kd.F_below (Kd.C_F (Kd.heap_int .u32) HR0.out) (Qa0))); rintro e w21 ⟨v151, rfl, ho0, hb⟩; have HO152 := Yt.mk (Kd.V_lower (Kd.Yp (ok' := fun k_ => True) ho0 (fun k_ hk_ => trivial)) (Zk (Qa0))); replace HB := Yt.mk (Zm (Qa0) hb); (try clear hb); (try clear ho0); clear A3) | (go_at_call 108; (with_reducible refine (nats_cut.calls k (fun k_ => k_ < w.heap.size) _ _ l1 t153 _ ?side1 A4.out).mono ?_); (case side1 => exact Kd.V_mk HC1.out (Kd.F_below (Kd.C_F (Kd.heap_int .u32) HR1.out) (Qa0))); rintro e w22 ⟨v154, rfl, ho0, hb⟩; replace HO152 := Yt.mk (Kd.Yr (Qr7 HO152.out) hb); have HO155 := Yt.mk (Kd.V_lower (Kd.Yp (ok' := fun k_ => True) ho0 (fun k_ hk_ => trivial)) (Zk (Qa0))); replace HB := Yt.mk (Zm (Qa0) hb); (try clear hb); (try clear ho0); obtain ⟨Ao23, co23, eo23⟩ := Kd.V_slice HO152.out; subst eo23; obtain ⟨Ao24, co24, eo24⟩ := Kd.V_slice HO155.out; subst eo24; clear A4)))
  go_ret
  exact ⟨Qa4, Qa0⟩
 rw [if_pos c5] at H
 have c5b0 : ((t150.length : Int) == (t153.length : Int)) = true := beq_iff_eq.mpr c5
 have c5b1 : ((t150.length : Int) != (t153.length : Int)) = false := bne_eq_false_iff_eq.mpr c5
 have c5b2 : (t150.length == t153.length) = true := by first | simpa using c5 | (simp at c5 ⊢; omega)
 clear c5
 have H' := Yt.mk H
 clear H
 go_enter Try.func89, Try.ntmps89
 go_wp2_with (first | (go_at_call 108; (with_reducible refine (nats_cut.calls k (fun k_ => k_ < w.heap.size) _ _ l0 t150 _ ?side1 A3.out).mono ?_); (case side1 => exact Kd.V_mk HC0.out (Kd.F_below (Kd.C_F (Kd.heap_int .u32) HR0.out) (Qa0))); rintro e w6 ⟨v151, rfl, ho0, hb⟩; have HO152 := Yt.mk (Kd.V_lower (Kd.Yp (ok' := fun k_ => True) ho0 (fun k_ hk_ => trivial)) (Zk (Qa0))); replace HB := Yt.mk (Zm (Qa0) hb); (try clear hb); (try clear ho0); clear A3) | (go_at_call 108; (with_reducible refine (nats_cut.calls k (fun k_ => k_ < w.heap.size) _ _ l1 t153 _ ?side1 A4.out).mono ?_); (case side1 => exact Kd.V_mk HC1.out (Kd.F_below (Kd.C_F (Kd.heap_int .u32) HR1.out) (Qa0))); rintro e w7 ⟨v154, rfl, ho0, hb⟩; replace HO152 := Yt.mk (Kd.Yr (Qr7 HO152.out) hb); have HO155 := Yt.mk (Kd.V_lower (Kd.Yp (ok' := fun k_ => True) ho0 (fun k_ hk_ => trivial)) (Zk (Qa0))); replace HB := Yt.mk (Zm (Qa0) hb); (try clear hb); (try clear ho0); obtain ⟨Ao8, co8, eo8⟩ := Kd.V_slice HO152.out; subst eo8; obtain ⟨Ao9, co9, eo9⟩ := Kd.V_slice HO155.out; subst eo9; clear A4))
 repeat (go_quiet (first | (go_at_call 108; (with_reducible refine (nats_cut.calls k (fun k_ => k_ < w.heap.size) _ _ l0 t150 _ ?side1 A3.out).mono ?_); (case side1 => exact Kd.V_mk HC0.out (Kd.F_below (Kd.C_F (Kd.heap_int .u32) HR0.out) (Qa0))); rintro e w6 ⟨v151, rfl, ho0, hb⟩; have HO152 := Yt.mk (Kd.V_lower (Kd.Yp (ok' := fun k_ => True) ho0 (fun k_ hk_ => trivial)) (Zk (Qa0))); replace HB := Yt.mk (Zm (Qa0) hb); (try clear hb); (try clear ho0); clear A3) | (go_at_call 108; (with_reducible refine (nats_cut.calls k (fun k_ => k_ < w.heap.size) _ _ l1 t153 _ ?side1 A4.out).mono ?_); (case side1 => exact Kd.V_mk HC1.out (Kd.F_below (Kd.C_F (Kd.heap_int .u32) HR1.out) (Qa0))); rintro e w7 ⟨v154, rfl, ho0, hb⟩; replace HO152 := Yt.mk (Kd.Yr (Qr7 HO152.out) hb); have HO155 := Yt.mk (Kd.V_lower (Kd.Yp (ok' := fun k_ => True) ho0 (fun k_ hk_ => trivial)) (Zk (Qa0))); replace HB := Yt.mk (Zm (Qa0) hb); (try clear hb); (try clear ho0); obtain ⟨Ao8, co8, eo8⟩ := Kd.V_slice HO152.out; subst eo8; obtain ⟨Ao9, co9, eo9⟩ := Kd.V_slice HO155.out; subst eo9; clear A4)); try go_wp2_with (first | (go_at_call 108; (with_reducible refine (nats_cut.calls k (fun k_ => k_ < w.heap.size) _ _ l0 t150 _ ?side1 A3.out).mono ?_); (case side1 => exact Kd.V_mk HC0.out (Kd.F_below (Kd.C_F (Kd.heap_int .u32) HR0.out) (Qa0))); rintro e w6 ⟨v151, rfl, ho0, hb⟩; have HO152 := Yt.mk (Kd.V_lower (Kd.Yp (ok' := fun k_ => True) ho0 (fun k_ hk_ => trivial)) (Zk (Qa0))); replace HB := Yt.mk (Zm (Qa0) hb); (try clear hb); (try clear ho0); clear A3) | (go_at_call 108; (with_reducible refine (nats_cut.calls k (fun k_ => k_ < w.heap.size) _ _ l1 t153 _ ?side1 A4.out).mono ?_); (case side1 => exact Kd.V_mk HC1.out (Kd.F_below (Kd.C_F (Kd.heap_int .u32) HR1.out) (Qa0))); rintro e w7 ⟨v154, rfl, ho0, hb⟩; replace HO152 := Yt.mk (Kd.Yr (Qr7 HO152.out) hb); have HO155 := Yt.mk (Kd.V_lower (Kd.Yp (ok' := fun k_ => True) ho0 (fun k_ hk_ => trivial)) (Zk (Qa0))); replace HB := Yt.mk (Zm (Qa0) hb); (try clear hb); (try clear ho0); obtain ⟨Ao8, co8, eo8⟩ := Kd.V_slice HO152.out; subst eo8; obtain ⟨Ao9, co9, eo9⟩ := Kd.V_slice HO155.out; subst eo9; clear A4)))
 go_loopg [5] k (fun kq v5 w' => ∃ (x5_1 : Int), v5 = .int .i64 x5_1 ∧ Yt (nats_Cmp.l0 kq t150 t153 x5_1 = some r) ∧ Yt (kq ≤ k) ∧ Yt (Kd.V (Kd.int .u32) 47 w' w.heap.size (fun _ => True) (.slice Ao8 t150.length co8) t150) ∧ Yt (Kd.V (Kd.int .u32) 47 w' w.heap.size (fun _ => True) (.slice Ao9 t153.length co9) t153) ∧ Yt (Below w.heap.size w w'))
 case atStart => exact ⟨(wrap64 ((t150.length : Int) - 1)), Qa5, H', ⟨Nat.le_refl _⟩, ⟨Qr7 HO152.out⟩, ⟨Qr7 HO155.out⟩, ⟨Qa0⟩⟩
 case round =>
  clear H'
  try clear c1; try clear p2; try clear c5; try clear c5b0; try clear c5b1; try clear c5b2; try clear p6; try clear c8
  obtain ⟨x5_1, rfl, HA, HK1, HO_0, HO_1, HB⟩ := hrel
  cases gk with
  | zero => exact absurd HA.out (by simp [nats_Cmp.l0])
  | succ k1 =>
   have H := HA.out
   clear HA
   simp only [nats_Cmp.l0] at H
   by_cases c10 : x5_1 ≥ 0
   rotate_left
   ·rw [if_neg c10] at H
    have c10b0 : decide (0 ≤ x5_1) = false := decide_eq_false c10
    clear c10
    obtain rfl := Option.some.inj H
    go_wp2
    repeat (go_quiet (fail); try go_wp2)
    go_ret
    exact ⟨Qa4, Qa0⟩
   rw [if_pos c10] at H
   have c10b0 : decide (0 ≤ x5_1) = true := decide_eq_true c10
   clear c10
   by_cases c11 : 0 ≤ x5_1
   rotate_left
   ·rw [if_neg c11] at H
    exact absurd H (by simp)
   rw [if_pos c11] at H
   have c11b0 : decide (0 ≤ x5_1) = true := decide_eq_true c11
   clear c11
   by_cases c12 : x5_1 < (t150.length : Int)
   rotate_left
   ·rw [if_neg c12] at H
    exact absurd H (by simp)
   rw [if_pos c12] at H
   have c12b0 : decide (x5_1 < (t150.length : Int)) = true := decide_eq_true c12
   clear c12
   by_cases c13 : x5_1 < (t153.length : Int)
   rotate_left
   ·rw [if_neg c13] at H
    exact absurd H (by simp)
   rw [if_pos c13] at H
   have c13b0 : decide (x5_1 < (t153.length : Int)) = true := decide_eq_true c13
   clear c13
   by_cases c14 : (rd t150 x5_1) = (rd t153 x5_1)
   ·rw [if_pos c14] at H
    have c14b0 : ((rd t150 x5_1) == (rd t153 x5_1)) = true := beq_iff_eq.mpr c14
    have c14b1 : ((rd t150 x5_1) != (rd t153 x5_1)) = false := bne_eq_false_iff_eq.mpr c14
    clear c14
    have H' := Yt.mk H
    clear H
    have p156 : 0 ≤ (x5_1 : Int) := Qd
    have q156 : x5_1 < (t150.length : Int) := Qd
    obtain ⟨ad156, e156, hx156_0⟩ := Kd.at_int (Kd.Yn HO_0.out).2.2 x5_1 p156 q156
    cases e156
    replace p156 := eq_true p156
    replace q156 := eq_true q156
    have p157 : 0 ≤ (x5_1 : Int) := Qd
    have q157 : x5_1 < (t153.length : Int) := Qd
    obtain ⟨ad157, e157, hx157_0⟩ := Kd.at_int (Kd.Yn HO_1.out).2.2 x5_1 p157 q157
    cases e157
    replace p157 := eq_true p157
    replace q157 := eq_true q157
    go_wp2
    repeat (go_quiet (fail); try go_wp2)
    go_roundg k1
    case measure => have := HK1.out; omega
    case rel => exact ⟨(wrap64 (x5_1 - 1)), Qa5, H', ⟨by have := HK1.out; omega⟩, ⟨Qr7 HO_0.out⟩, ⟨Qr7 HO_1.out⟩, ⟨Qa0⟩⟩
   rw [if_neg c14] at H
   have c14b0 : ((rd t150 x5_1) == (rd t153 x5_1)) = false := beq_eq_false_iff_ne.mpr c14
   have c14b1 : ((rd t150 x5_1) != (rd t153 x5_1)) = true := bne_iff_ne.mpr c14
   by_cases c15 : (rd t150 x5_1) < (rd t153 x5_1)
   ·rw [if_pos c15] at H
    have c15b0 : decide ((rd t150 x5_1) < (rd t153 x5_1)) = true := decide_eq_true c15
    clear c15
    obtain rfl := Option.some.inj H
    have p156 : 0 ≤ (x5_1 : Int) := Qd
    have q156 : x5_1 < (t150.length : Int) := Qd
    obtain ⟨ad156, e156, hx156_0⟩ := Kd.at_int (Kd.Yn HO_0.out).2.2 x5_1 p156 q156
    cases e156
    replace p156 := eq_true p156
    replace q156 := eq_true q156
    have p157 : 0 ≤ (x5_1 : Int) := Qd
    have q157 : x5_1 < (t153.length : Int) := Qd
    obtain ⟨ad157, e157, hx157_0⟩ := Kd.at_int (Kd.Yn HO_1.out).2.2 x5_1 p157 q157
    cases e157
    replace p157 := eq_true p157
    replace q157 := eq_true q157
    have p158 : 0 ≤ (x5_1 : Int) := Qd
    have q158 : x5_1 < (t150.length : Int) := Qd
    obtain ⟨ad158, e158, hx158_0⟩ := Kd.at_int (Kd.Yn HO_0.out).2.2 x5_1 p158 q158
    obtain rfl : ad156 = ad158 := (by injection e158)
    replace p158 := eq_true p158
    replace q158 := eq_true q158
    have p159 : 0 ≤ (x5_1 : Int) := Qd
    have q159 : x5_1 < (t153.length : Int) := Qd
    obtain ⟨ad159, e159, hx159_0⟩ := Kd.at_int (Kd.Yn HO_1.out).2.2 x5_1 p159 q159
    obtain rfl : ad157 = ad159 := (by injection e159)
    replace p159 := eq_true p159
    replace q159 := eq_true q159
    go_wp2
    repeat (go_quiet (fail); try go_wp2)
    go_ret
    exact ⟨Qa4, Qa0⟩
   rw [if_neg c15] at H
   have c15b0 : decide ((rd t150 x5_1) < (rd t153 x5_1)) = false := decide_eq_false c15
   clear c15
   obtain rfl := Option.some.inj H
   have p156 : 0 ≤ (x5_1 : Int) := Qd
   have q156 : x5_1 < (t150.length : Int) := Qd
   obtain ⟨ad156, e156, hx156_0⟩ := Kd.at_int (Kd.Yn HO_0.out).2.2 x5_1 p156 q156
   cases e156
   replace p156 := eq_true p156
   replace q156 := eq_true q156
   have p157 : 0 ≤ (x5_1 : Int) := Qd
   have q157 : x5_1 < (t153.length : Int) := Qd
   obtain ⟨ad157, e157, hx157_0⟩ := Kd.at_int (Kd.Yn HO_1.out).2.2 x5_1 p157 q157
   cases e157
   replace p157 := eq_true p157
   replace q157 := eq_true q157
   have p158 : 0 ≤ (x5_1 : Int) := Qd
   have q158 : x5_1 < (t150.length : Int) := Qd
   obtain ⟨ad158, e158, hx158_0⟩ := Kd.at_int (Kd.Yn HO_0.out).2.2 x5_1 p158 q158
   obtain rfl : ad156 = ad158 := (by injection e158)
   replace p158 := eq_true p158
   replace q158 := eq_true q158
   have p159 : 0 ≤ (x5_1 : Int) := Qd
   have q159 : x5_1 < (t153.length : Int) := Qd
   obtain ⟨ad159, e159, hx159_0⟩ := Kd.at_int (Kd.Yn HO_1.out).2.2 x5_1 p159 q159
   obtain rfl : ad157 = ad159 := (by injection e159)
   replace p159 := eq_true p159
   replace q159 := eq_true q159
   go_wp2
   repeat (go_quiet (fail); try go_wp2)
   go_ret
   exact ⟨Qa4, Qa0⟩
def nats_word.l0 : Nat → List Int → Int → List Int → Int → Int → Option (List Int × Int)
 | 0, _, _, _, _, _ => none
 | k + 1, x0, x1, x6, x7, x8 => if x8 ≥ 0 then (if 0 ≤ x8 then (if x8 < (x0.length : Int) then (if (IntKind.u64.wrap (x1)) = 0 then (none) else (if x8 < (x6.length : Int) then (nats_word.l0 k x0 x1 (x6.set (x8 : Int).toNat ((IntKind.u64.wrap (Int.tdiv (Go.bits .or .u64 (IntKind.u64.wrap (x7 * 4294967296)) (IntKind.u64.wrap (rd x0 x8))) (IntKind.u64.wrap (x1)))) % 4294967296)) (Int.tmod (Go.bits .or .u64 (IntKind.u64.wrap (x7 * 4294967296)) (IntKind.u64.wrap (rd x0 x8))) (IntKind.u64.wrap (x1))) (wrap64 (x8 - 1))) else (none))) else (none)) else (none)) else ((nats_cuto.f k x6).bind fun t174 => (some (t174, (x7) % 4294967296)))
def nats_word.f (k : Nat) (l0 : List Int) (a1 : Int) : Option (List Int × Int) := if 0 ≤ (l0.length : Int) then (if ((l0.length : Int) : Int).toNat ≤ 70368744177664 then (nats_word.l0 k l0 a1 (List.replicate ((l0.length : Int) : Int).toNat 0) 0 (wrap64 ((l0.length : Int) - 1))) else (none)) else (none)
theorem nats_word.mono_l : ∀ k, (∀ y0 y1 y2 y3 y4, LeO (nats_word.l0 k y0 y1 y2 y3 y4) (nats_word.l0 (k + 1) y0 y1 y2 y3 y4))
 | 0 => fun _ _ _ _ _ r h => by simp [nats_word.l0] at h
 | k + 1 => by
  have ih0 := nats_word.mono_l k
  ·intro y0 y1 y2 y3 y4
   unfold nats_word.l0
   have m0 := @nats_cuto.mono
   exact Qa6
theorem nats_word.mono : ∀ a0 a1 k, LeO (nats_word.f k a0 a1) (nats_word.f (k + 1) a0 a1) := by
 intro a0 a1 k
 have ih0 := nats_word.mono_l k
 unfold nats_word.f
 have m0 := @nats_cuto.mono
 exact Qa6
theorem nats_word.calls (k : Nat) (A0 : Option Addr) (c0 : Nat) (l0 : List Int) (a1 : Int) (r1 : List Int) (r2 : Int) (w : World) (hr0 : Kd.C (Kd.int .u32) w A0 l0.length l0) (hc0 : l0.length ≤ c0) (h : nats_word.f k l0 a1 = some (r1, r2)) :
  Calls Try.prog 110 #[.slice A0 l0.length c0, .int .u32 a1] w fun e w' => ∃ v0_ : Value, e = .returned (.tuple #[v0_, .int .u32 r2]) ∧ Kd.R (Kd.int .u32) 47 w' w.heap.size (fun _ => True) v0_ r1 ∧ Below w.heap.size w w' := by
 have HR0 := Yt.mk hr0
 have HC0 := Yt.mk hc0
 clear hr0 hc0
 have HB := Yt.mk (Below.refl w.heap.size w)
 unfold nats_word.f at h
 have H := h
 clear h
 by_cases c3 : 0 ≤ (l0.length : Int)
 rotate_left
 ·rw [if_neg c3] at H
  exact absurd H (by simp)
 rw [if_pos c3] at H
 have c3b0 := eq_true c3
 have c3b1 : decide (0 ≤ (l0.length : Int)) = true := decide_eq_true c3
 clear c3
 by_cases c4 : ((l0.length : Int) : Int).toNat ≤ 70368744177664
 rotate_left
 ·rw [if_neg c4] at H
  exact absurd H (by simp)
 rw [if_pos c4] at H
 have c4b0 := eq_true c4
 have c4b1 : decide (((l0.length : Int) : Int).toNat ≤ 70368744177664) = true := decide_eq_true c4
 clear c4
 obtain ⟨y169, hy169⟩ : ∃ y_ : List Int, y_ = (List.replicate ((l0.length : Int) : Int).toNat 0) := ⟨_, rfl⟩
 replace H : (nats_word.l0 k l0 a1 y169 0 (wrap64 ((l0.length : Int) - 1))) = some (r1, r2) := Qh hy169 H
 have Ny169 := Yt.mk hy169
 clear hy169
 have H' := Yt.mk H
 clear H
 go_enter Try.func110, Try.ntmps110
 go_wp2_with (first | ((with_reducible refine Yk (N := 12) rfl ?_); refine Kd.R_make (Kd.int .u32) _ 47 rfl (N := 12) rfl 22 _ _ rfl (l0.length : Int) rfl rfl Try.underlying22 (.int .u32 0) 4 info47 rfl (by decide) (by omega) 0 (ok := fun _ => True) (okp := fun _ => True) rfl (fun _ hk => hk) trivial (Qd) (Nat.le_trans (Nat.mul_le_mul_right _ (Qd : (l0.length : Int).toNat ≤ 70368744177664)) (by omega)) (Below.refl _ _) (Nat.le_refl _) ?_; intro v170 w5 ho6 hb hg_ hnew_; clear hg_ hnew_; (first | rw [← Ny169.out] at ho6 | (simp only [Int.reduceToNat] at ho6; rw [← Ny169.out] at ho6)); have HO171 := Yt.mk (Kd.Yb ho6 (Zk (Qa0))); replace HB := Yt.mk (Zm (Qa0) hb); clear hb ho6))
 go_loopg [7, 8] k (fun kq v7 v8 w' => ∃ (x6_1 : List Int) (x7_1 : Int) (x8_1 : Int), v7 = .int .u64 x7_1 ∧ v8 = .int .i64 x8_1 ∧ Yt (nats_word.l0 kq l0 a1 x6_1 x7_1 x8_1 = some (r1, r2)) ∧ Yt (kq ≤ k) ∧ Yt (Kd.R (Kd.int .u32) 47 w' w.heap.size (fun _ => True) v170 x6_1) ∧ Yt (Below w.heap.size w w'))
 case atStart => exact ⟨(y169), (0), (wrap64 ((l0.length : Int) - 1)), Qa5, Qa5, H', ⟨Nat.le_refl _⟩, ⟨Qr1 HO171.out⟩, ⟨Qa0⟩⟩
 case round =>
  clear H'
  try clear c1; try clear p2; try clear c3; try clear c3b0; try clear c3b1; try clear c4; try clear c4b0; try clear c4b1; try clear p6
  obtain ⟨x6_1, x7_1, x8_1, rfl, rfl, HA, HK1, HO_6, HB⟩ := hrel
  cases gk with
  | zero => exact absurd HA.out (by simp [nats_word.l0])
  | succ k1 =>
   have H := HA.out
   clear HA
   simp only [nats_word.l0] at H
   by_cases c7 : x8_1 ≥ 0
   rotate_left
   ·rw [if_neg c7] at H
    have c7b0 : decide (0 ≤ x8_1) = false := decide_eq_false c7
    clear c7
    replace H := Option.bind_eq_some_iff.mp H
    obtain ⟨t174, A150, H⟩ := H
    replace H : (some (t174, (x7_1) % 4294967296)) = some (r1, r2) := H
    have A15 := Yt.mk A150
    clear A150
    simp only [Option.some.injEq, Prod.mk.injEq] at H
    obtain ⟨rfl, rfl⟩ := H
    obtain ⟨Ao16, co16, eo16⟩ := Kd.Zx HO_6.out
    subst eo16
    go_wp2_with (first | ((with_reducible refine Zr (f := 108) rfl ?_); refine Yg (some 41) rfl rfl Try.func108 Qa8 rfl #[.slice Ao16 x6_1.length co16] rfl Qa2 ?_; (with_reducible refine (nats_cuto.calls k1 (fun k_ => some k_ = (.slice Ao16 x6_1.length co16 : Value).ownBlock) (.slice Ao16 x6_1.length co16) x6_1 t174 w _ ?side1 ?side2 A15.out).mono ?_); (case side1 => repeat (first | (with_reducible first | exact HB.out | apply Zb | apply Za | apply Zc) | exact HB.out)); (case side2 => exact Kd.R_tight rfl HO_6.out); rintro e w17 ⟨v175, rfl, ho0, hb, hkp⟩; refine ⟨_, rfl, ?_⟩; have HO176 := Yt.mk (Kd.Zv (ok' := fun k_ => True) ho0 (fun k_ hk_ => trivial)); replace HB := Yt.mk (hb); clear HO_6; (try clear hb); (try clear hkp); (try clear ho0)))
    go_ret2
    exact ⟨_, Qa4, Qr1 HO176.out, Qa0⟩
   rw [if_pos c7] at H
   have c7b0 : decide (0 ≤ x8_1) = true := decide_eq_true c7
   clear c7
   by_cases c8 : 0 ≤ x8_1
   rotate_left
   ·rw [if_neg c8] at H
    exact absurd H (by simp)
   rw [if_pos c8] at H
   have c8b0 : decide (0 ≤ x8_1) = true := decide_eq_true c8
   clear c8
   by_cases c9 : x8_1 < (l0.length : Int)
   rotate_left
   ·rw [if_neg c9] at H
    exact absurd H (by simp)
   rw [if_pos c9] at H
   have c9b0 : decide (x8_1 < (l0.length : Int)) = true := decide_eq_true c9
   clear c9
   by_cases c10 : (IntKind.u64.wrap (a1)) = 0
   ·rw [if_pos c10] at H
    exact absurd H (by simp)
   rw [if_neg c10] at H
   have c10b0 : ((IntKind.u64.wrap (a1)) == 0) = false := beq_eq_false_iff_ne.mpr c10
   have c10b1 : ((IntKind.u64.wrap (a1)) != 0) = true := bne_iff_ne.mpr c10
   by_cases c11 : x8_1 < (x6_1.length : Int)
   rotate_left
   ·rw [if_neg c11] at H
    exact absurd H (by simp)
   rw [if_pos c11] at H
   have c11b0 : decide (x8_1 < (x6_1.length : Int)) = true := decide_eq_true c11
   clear c11
   obtain ⟨y173, hy173⟩ : ∃ y_ : List Int, y_ = (x6_1.set (x8_1 : Int).toNat ((IntKind.u64.wrap (Int.tdiv (Go.bits .or .u64 (IntKind.u64.wrap (x7_1 * 4294967296)) (IntKind.u64.wrap (rd l0 x8_1))) (IntKind.u64.wrap (a1)))) % 4294967296)) := ⟨_, rfl⟩
   replace H : (nats_word.l0 k1 l0 a1 y173 (Int.tmod (Go.bits .or .u64 (IntKind.u64.wrap (x7_1 * 4294967296)) (IntKind.u64.wrap (rd l0 x8_1))) (IntKind.u64.wrap (a1))) (wrap64 (x8_1 - 1))) = some (r1, r2) := Qh hy173 H
   have Ny173 := Yt.mk hy173
   clear hy173
   have H' := Yt.mk H
   clear H
   have p172 : 0 ≤ (x8_1 : Int) := Qd
   have q172 : x8_1 < (l0.length : Int) := Qd
   obtain ⟨ad172, e172, hx172_0⟩ := Kd.at_int HR0.out x8_1 p172 q172
   cases e172
   replace hx172_0 := (HB.out.cell (World.block_lt_of_cell? w _ hx172_0)).trans hx172_0
   replace p172 := eq_true p172
   replace q172 := eq_true q172
   have p12 : 0 ≤ (x8_1 : Int) := Qd
   have q12 : (x8_1 : Int) < ((x6_1.length : Int) : Int) := Qd
   obtain ⟨go12, co12, eo12, gb12, gl12, cl12, HG12⟩ := Kd.R_form HO_6.out (by omega)
   (first | cases eo12 | (injection eo12 with ea_ en_ ec_; (first | subst ea_ | (injection ea_ with ea_; subst ea_)); subst ec_; clear en_))
   have GB12 := Yt.mk gb12
   have GG12 := Yt.mk HG12
   clear gb12 gl12 HG12
   obtain ⟨hx12_0, hf12_0⟩ := Kd.R_celln 0 HO_6.out (x8_1 : Int) p12 q12
   replace p12 := eq_true p12
   replace q12 := eq_true q12
   obtain ⟨hy13_, hz13_⟩ := Kd.R_celln 0 HO_6.out (x8_1 : Int) (Qd) (Qd)
   have HP13 := Kd.R_putg HO_6.out (x8_1 : Int) ((IntKind.u64.wrap (Int.tdiv (Go.bits .or .u64 (IntKind.u64.wrap (x7_1 * 4294967296)) (IntKind.u64.wrap (rd l0 x8_1))) (IntKind.u64.wrap (a1)))) % 4294967296)
   go_wp2_with (first | ((with_reducible refine gate_store (t := 47) (p := 35) rfl ?_); refine store_event (t := 47) (p := 35) (v := ?vo_w14) (w1 := (wr.setCell ⟨go12, (x8_1 : Int).toNat, none⟩ (.int .u32 ((IntKind.u64.wrap (Int.tdiv (Go.bits .or .u64 (IntKind.u64.wrap (x7_1 * 4294967296)) (IntKind.u64.wrap (rd l0 x8_1))) (IntKind.u64.wrap (a1)))) % 4294967296)))) ?hg ?ho ?hn ?hr ?_; (case ho => rfl); (case hg => rfl); (case hn => rfl); (case hr => exact Qa9); intro w14 hw; have hg : wr.grownBy w14 (some go12) := (by rw [hw]; exact HP13.2); have hp_ : Kd.R (Kd.int .u32) 47 w14 w.heap.size (fun _ => True) (.slice (some ⟨go12, 0, none⟩) x6_1.length co12) y173 := (by rw [hw, Ny173.out]; exact HP13.1); clear HP13; replace HO_6 := Yt.mk (hp_); replace HB := Yt.mk ((by rw [hw]; exact Zd (HB.out) GB12.out : Below w.heap.size w w14)); clear hg hw hp_))
   go_roundg k1
   case measure => have := HK1.out; omega
   case rel => exact ⟨(y173), (Int.tmod (Go.bits .or .u64 (IntKind.u64.wrap (x7_1 * 4294967296)) (IntKind.u64.wrap (rd l0 x8_1))) (IntKind.u64.wrap (a1))), (wrap64 (x8_1 - 1)), Qa5, Qa5, H', ⟨by have := HK1.out; omega⟩, ⟨Qr1 HO_6.out⟩, ⟨Qa0⟩⟩
def nats_Shl.l0 : Nat → Int → Int → List Int → List Int → Int → Int → Option (List Int)
 | 0, _, _, _, _, _, _ => none
 | k + 1, x5, x6, x7, x27, x28, x29 => if x29 < x28 then (if 0 ≤ x29 then (if x29 < (x27.length : Int) then (if 0 ≤ x6 then (if 0 ≤ (wrap64 (x5 + x29)) then (if (wrap64 (x5 + x29)) < (x7.length : Int) then (if 0 ≤ (wrap64 ((wrap64 (x5 + x29)) + 1)) then (if (wrap64 ((wrap64 (x5 + x29)) + 1)) < (x7.length : Int) then (nats_Shl.l0 k x5 x6 ((x7.set ((wrap64 (x5 + x29)) : Int).toNat (Go.bits .or .u32 (rd x7 (wrap64 (x5 + x29))) ((shl .u64 (IntKind.u64.wrap (rd x27 x29)) x6) % 4294967296))).set ((wrap64 ((wrap64 (x5 + x29)) + 1)) : Int).toNat (((shl .u64 (IntKind.u64.wrap (rd x27 x29)) x6) / 4294967296) % 4294967296)) x27 x28 (wrap64 (x29 + 1))) else (none)) else (none)) else (none)) else (none)) else (none)) else (none)) else (none)) else ((nats_cuto.f k x7).bind fun t187 => (some t187))
def nats_Shl.f (k : Nat) (l0 : List Int) (a1 : Int) : Option (List Int) := (nats_cut.f k l0).bind fun t177 => (if (t177.length : Int) = 0 then (some ([] : List Int)) else (if 0 ≤ (wrap64 ((wrap64 ((wrap64 (Int.tdiv a1 32)) + (t177.length : Int))) + 1)) then (if (wrap64 ((wrap64 ((wrap64 (Int.tdiv a1 32)) + (t177.length : Int))) + 1) : Int).toNat ≤ 70368744177664 then (nats_Shl.l0 k (wrap64 (Int.tdiv a1 32)) (IntKind.u64.wrap (Int.tmod a1 32)) (List.replicate (wrap64 ((wrap64 ((wrap64 (Int.tdiv a1 32)) + (t177.length : Int))) + 1) : Int).toNat 0) t177 (t177.length : Int) 0) else (none)) else (none)))
theorem nats_Shl.mono_l : ∀ k, (∀ y0 y1 y2 y3 y4 y5, LeO (nats_Shl.l0 k y0 y1 y2 y3 y4 y5) (nats_Shl.l0 (k + 1) y0 y1 y2 y3 y4 y5))
 | 0 => fun _ _ _ _ _ _ r h => by simp [nats_Shl.l0] at h
 | k + 1 => by
  have ih0 := nats_Shl.mono_l k
  ·intro y0 y1 y2 y3 y4 y5
   unfold nats_Shl.l0
   have m0 := @nats_cut.mono
   have m1 := @nats_cuto.mono
   exact Qa6
theorem nats_Shl.mono : ∀ a0 a1 k, LeO (nats_Shl.f k a0 a1) (nats_Shl.f (k + 1) a0 a1) := by
 intro a0 a1 k
 have ih0 := nats_Shl.mono_l k
 unfold nats_Shl.f
 have m0 := @nats_cut.mono
 have m1 := @nats_cuto.mono
 exact Qa6
theorem nats_Shl.calls (k : Nat) (A0 : Option Addr) (c0 : Nat) (l0 : List Int) (a1 : Int) (r : List Int) (w : World) (hr0 : Kd.C (Kd.int .u32) w A0 l0.length l0) (hc0 : l0.length ≤ c0) (h : nats_Shl.f k l0 a1 = some r) :
  Calls Try.prog 112 #[.slice A0 l0.length c0, .int .i64 a1] w fun e w' => ∃ v0_ : Value, e = .returned (v0_) ∧ Kd.R (Kd.int .u32) 47 w' w.heap.size (fun _ => True) v0_ r ∧ Below w.heap.size w w' := by
 have HR0 := Yt.mk hr0
 have HC0 := Yt.mk hc0
 clear hr0 hc0
 have HB := Yt.mk (Below.refl w.heap.size w)
 unfold nats_Shl.f at h
 have H := h
 clear h
 replace H := Option.bind_eq_some_iff.mp H
 obtain ⟨t177, A30, H⟩ := H
 try dsimp only at H
 have A3 := Yt.mk A30
 clear A30
 by_cases c4 : (t177.length : Int) = 0
 ·rw [if_pos c4] at H
  have c4b0 : ((t177.length : Int) == 0) = true := beq_iff_eq.mpr c4
  have c4b1 : ((t177.length : Int) != 0) = false := bne_eq_false_iff_eq.mpr c4
  clear c4
  obtain rfl := Option.some.inj H
  go_enter Try.func112, Try.ntmps112
  go_wp2_with (first | ((with_reducible refine Zr (f := 108) rfl ?_); refine Yg (some 12) rfl rfl Try.func108 Qa8 rfl #[.slice A0 l0.length c0] rfl Qa2 ?_; (with_reducible refine (nats_cut.calls k (fun k_ => k_ < w.heap.size) _ _ l0 t177 _ ?side1 A3.out).mono ?_); (case side1 => exact Kd.V_mk HC0.out (Kd.F_below (Kd.C_F (Kd.heap_int .u32) HR0.out) (Qa0))); rintro e w5 ⟨v178, rfl, ho0, hb⟩; refine ⟨_, rfl, ?_⟩; have HO179 := Yt.mk (Kd.V_lower (Kd.Yp (ok' := fun k_ => True) ho0 (fun k_ hk_ => trivial)) (Zk (Qa0))); replace HB := Yt.mk (Zm (Qa0) hb); (try clear hb); (try clear ho0); obtain ⟨Ao6, co6, eo6⟩ := Kd.V_slice HO179.out; subst eo6))
  go_ret
  exact ⟨_, Qa4, by first | exact Kd.R_nil _ _ _ _ _ | exact Kd.N_nil _ _ _ _ _ | exact Kd.V_nil _ _ _ _ _ | exact Kd.Q_nil _ _ _ _ _ | exact Kd.S_nil _ _ _ _ _, Qa0⟩
 rw [if_neg c4] at H
 have c4b0 : ((t177.length : Int) == 0) = false := beq_eq_false_iff_ne.mpr c4
 have c4b1 : ((t177.length : Int) != 0) = true := bne_iff_ne.mpr c4
 have c4b2 : ¬ (t177 = []) := fun h_ => c4 (by rw [h_]; rfl)
 obtain ⟨ji7, hji7⟩ : ∃ j_ : Int, (wrap64 ((wrap64 ((wrap64 (Int.tdiv a1 32)) + (t177.length : Int))) + 1)) = j_ := ⟨_, rfl⟩
 replace H : (if 0 ≤ (ji7) then (if (ji7 : Int).toNat ≤ 70368744177664 then (nats_Shl.l0 k (wrap64 (Int.tdiv a1 32)) (IntKind.u64.wrap (Int.tmod a1 32)) (List.replicate (ji7 : Int).toNat 0) t177 (t177.length : Int) 0) else (none)) else (none)) = some r := by first | (rw [hji7] at H; exact H) | (simp only [hji7] at H ⊢; exact H)
 (try rw [hji7] at A3)
 have hji7w : (IntKind.i64.wrap ((wrap64 ((wrap64 (Int.tdiv a1 32)) + (t177.length : Int))) + 1)) = ji7 := (Yi _).trans hji7
 by_cases c8 : 0 ≤ (ji7)
 rotate_left
 ·rw [if_neg c8] at H
  exact absurd H (by simp)
 rw [if_pos c8] at H
 have c8b0 := eq_true c8
 have c8b1 : decide (0 ≤ (ji7)) = true := decide_eq_true c8
 clear c8
 by_cases c9 : (ji7 : Int).toNat ≤ 70368744177664
 rotate_left
 ·rw [if_neg c9] at H
  exact absurd H (by simp)
 rw [if_pos c9] at H
 have c9b0 := eq_true c9
 have c9b1 : decide ((ji7 : Int).toNat ≤ 70368744177664) = true := decide_eq_true c9
 clear c9
 obtain ⟨y180, hy180⟩ : ∃ y_ : List Int, y_ = (List.replicate (ji7 : Int).toNat 0) := ⟨_, rfl⟩
 replace H : (nats_Shl.l0 k (wrap64 (Int.tdiv a1 32)) (IntKind.u64.wrap (Int.tmod a1 32)) y180 t177 (t177.length : Int) 0) = some r := Qh hy180 H
 have Ny180 := Yt.mk hy180
 clear hy180
 have H' := Yt.mk H
 clear H
 go_enter Try.func112, Try.ntmps112
 go_wp2_with (first | ((with_reducible refine Zr (f := 108) rfl ?_); refine Yg (some 12) rfl rfl Try.func108 Qa8 rfl #[.slice A0 l0.length c0] rfl Qa2 ?_; (with_reducible refine (nats_cut.calls k (fun k_ => k_ < w.heap.size) _ _ l0 t177 _ ?side1 A3.out).mono ?_); (case side1 => exact Kd.V_mk HC0.out (Kd.F_below (Kd.C_F (Kd.heap_int .u32) HR0.out) (Qa0))); rintro e w10 ⟨v178, rfl, ho0, hb⟩; refine ⟨_, rfl, ?_⟩; have HO179 := Yt.mk (Kd.V_lower (Kd.Yp (ok' := fun k_ => True) ho0 (fun k_ hk_ => trivial)) (Zk (Qa0))); replace HB := Yt.mk (Zm (Qa0) hb); (try clear hb); (try clear ho0); obtain ⟨Ao11, co11, eo11⟩ := Kd.V_slice HO179.out; subst eo11) | ((with_reducible refine Yk (N := 26) rfl ?_); refine Kd.R_make (Kd.int .u32) _ 47 rfl (N := 26) rfl 22 _ _ rfl ji7 rfl rfl Try.underlying22 (.int .u32 0) 4 info47 rfl (by decide) (by omega) 0 (ok := fun _ => True) (okp := fun _ => True) rfl (fun _ hk => hk) trivial (Qd) (Nat.le_trans (Nat.mul_le_mul_right _ (Qd : ji7.toNat ≤ 70368744177664)) (by omega)) (Below.refl _ _) (Nat.le_refl _) ?_; intro v181 w12 ho13 hb hg_ hnew_; clear hg_ hnew_; (first | rw [← Ny180.out] at ho13 | (simp only [Int.reduceToNat] at ho13; rw [← Ny180.out] at ho13)); replace HO179 := Yt.mk (Kd.V_elder' (Qr7 HO179.out) (Kd.Zw ho13) hb); have HO182 := Yt.mk (Kd.Yb ho13 (Zk (Qa0))); replace HB := Yt.mk (Zm (Qa0) hb); clear hb ho13))
 go_loopg [29] k (fun kq v29 w' => ∃ (x7_1 : List Int) (x29_1 : Int), v29 = .int .i64 x29_1 ∧ Yt (nats_Shl.l0 kq (wrap64 (Int.tdiv a1 32)) (IntKind.u64.wrap (Int.tmod a1 32)) x7_1 t177 (t177.length : Int) x29_1 = some r) ∧ Yt (kq ≤ k) ∧ Yt (Kd.R (Kd.int .u32) 47 w' w.heap.size (fun _ => True) v181 x7_1) ∧ Yt (Kd.V (Kd.int .u32) 47 w' w.heap.size (fun k_ => some k_ ≠ (v181 : Value).ownBlock) (.slice Ao11 t177.length co11) t177) ∧ Yt (Below w.heap.size w w'))
 case atStart => exact ⟨(y180), (0), Qa5, H', ⟨Nat.le_refl _⟩, ⟨Qr1 HO182.out⟩, ⟨by (with_reducible repeat (first | apply Kd.Zz | apply Kd.Zy | apply Kd.Ye)); exact Kd.Yp HO179.out (fun _ hk => hk.2)⟩, ⟨Qa0⟩⟩
 case round =>
  clear H'
  try clear c1; try clear p2; try clear c4; try clear c4b0; try clear c4b1; try clear c4b2; try clear p6; try clear c8; try clear c8b0; try clear c8b1; try clear c9; try clear c9b0; try clear c9b1; try clear c10; try clear c11
  obtain ⟨x7_1, x29_1, rfl, HA, HK1, HO_7, HO_27, HB⟩ := hrel
  cases gk with
  | zero => exact absurd HA.out (by simp [nats_Shl.l0])
  | succ k1 =>
   have H := HA.out
   clear HA
   simp only [nats_Shl.l0] at H
   by_cases c14 : x29_1 < (t177.length : Int)
   rotate_left
   ·rw [if_neg c14] at H
    have c14b0 : decide (x29_1 < (t177.length : Int)) = false := decide_eq_false c14
    clear c14
    replace H := Option.bind_eq_some_iff.mp H
    obtain ⟨t187, A320, H⟩ := H
    replace H : (some t187) = some r := H
    have A32 := Yt.mk A320
    clear A320
    obtain rfl := Option.some.inj H
    obtain ⟨Ao33, co33, eo33⟩ := Kd.Zx HO_7.out
    subst eo33
    go_wp2_with (first | ((with_reducible refine Zr (f := 108) rfl ?_); refine Yg (some 59) rfl rfl Try.func108 Qa8 rfl #[.slice Ao33 x7_1.length co33] rfl Qa2 ?_; (with_reducible refine (nats_cuto.calls k1 (fun k_ => some k_ = (.slice Ao33 x7_1.length co33 : Value).ownBlock) (.slice Ao33 x7_1.length co33) x7_1 t187 w _ ?side1 ?side2 A32.out).mono ?_); (case side1 => repeat (first | (with_reducible first | exact HB.out | apply Zb | apply Za | apply Zc) | exact HB.out)); (case side2 => exact Kd.R_tight rfl HO_7.out); rintro e w34 ⟨v188, rfl, ho0, hb, hkp⟩; refine ⟨_, rfl, ?_⟩; replace HO_27 := Yt.mk (Kd.Yp (ok' := fun k_ => some k_ ≠ (v188 : Value).ownBlock) (Kd.V_keptB (HO_27.out) hkp (fun k_ hk_ hs_ => (hk_) hs_)) (fun k_ hk_ => fun e_ => Or.elim (ho0.1 k_ e_.symm) (fun hs_ => hk_.2.1 hs_) (fun hn_ => Nat.not_le.2 hk_.2.2 hn_))); have HO189 := Yt.mk (Kd.Zv (ok' := fun k_ => True) ho0 (fun k_ hk_ => trivial)); replace HB := Yt.mk (hb); clear HO_7; (try clear hb); (try clear hkp); (try clear ho0)))
    go_ret
    exact ⟨_, by first | rfl | (simp [Zp, Zo] <;> rfl) | (simp only [← hji7]; first | rfl | (simp [Zp, Zo] <;> rfl)) | (simp [*, Zp, Zo] <;> rfl), Qr1 HO189.out, Qa0⟩
   rw [if_pos c14] at H
   have c14b0 : decide (x29_1 < (t177.length : Int)) = true := decide_eq_true c14
   clear c14
   by_cases c15 : 0 ≤ x29_1
   rotate_left
   ·rw [if_neg c15] at H
    exact absurd H (by simp)
   rw [if_pos c15] at H
   have c15b0 : decide (0 ≤ x29_1) = true := decide_eq_true c15
   clear c15
   by_cases c16 : x29_1 < (t177.length : Int)
   rotate_left
   ·rw [if_neg c16] at H
    exact absurd H (by simp)
   rw [if_pos c16] at H
   have c16b0 : decide (x29_1 < (t177.length : Int)) = true := decide_eq_true c16
   clear c16
   by_cases c17 : 0 ≤ (IntKind.u64.wrap (Int.tmod a1 32))
   rotate_left
   ·rw [if_neg c17] at H
    exact absurd H (by simp)
   rw [if_pos c17] at H
   have c17b0 := eq_true c17
   have c17b1 : decide (0 ≤ (IntKind.u64.wrap (Int.tmod a1 32))) = true := decide_eq_true c17
   clear c17
   obtain ⟨ji18, hji18⟩ : ∃ j_ : Int, (shl .u64 (IntKind.u64.wrap (rd t177 x29_1)) (IntKind.u64.wrap (Int.tmod a1 32))) = j_ := ⟨_, rfl⟩
   replace H : (if 0 ≤ (wrap64 ((wrap64 (Int.tdiv a1 32)) + x29_1)) then (if (wrap64 ((wrap64 (Int.tdiv a1 32)) + x29_1)) < (x7_1.length : Int) then (if 0 ≤ (wrap64 ((wrap64 ((wrap64 (Int.tdiv a1 32)) + x29_1)) + 1)) then (if (wrap64 ((wrap64 ((wrap64 (Int.tdiv a1 32)) + x29_1)) + 1)) < (x7_1.length : Int) then (nats_Shl.l0 k1 (wrap64 (Int.tdiv a1 32)) (IntKind.u64.wrap (Int.tmod a1 32)) ((x7_1.set ((wrap64 ((wrap64 (Int.tdiv a1 32)) + x29_1)) : Int).toNat (Go.bits .or .u32 (rd x7_1 (wrap64 ((wrap64 (Int.tdiv a1 32)) + x29_1))) ((ji18) % 4294967296))).set ((wrap64 ((wrap64 ((wrap64 (Int.tdiv a1 32)) + x29_1)) + 1)) : Int).toNat (((ji18) / 4294967296) % 4294967296)) t177 (t177.length : Int) (wrap64 (x29_1 + 1))) else (none)) else (none)) else (none)) else (none)) = some r := by first | (rw [hji18] at H; exact H) | (simp only [hji18] at H ⊢; exact H)
   have hji18_ : (IntKind.u64.wrap ((IntKind.u64.wrap (rd t177 x29_1)) * 2 ^ min (IntKind.u64.wrap (Int.tmod a1 32)).toNat 64)) = ji18 := hji18
   have hji18z : (IntKind.u64.wrap (Int.tmod a1 32)) ≤ 64 → (IntKind.u64.wrap ((IntKind.u64.wrap (rd t177 x29_1)) * 2 ^ (IntKind.u64.wrap (Int.tmod a1 32)).toNat)) = ji18 := shl_small hji18
   obtain ⟨ji19, hji19⟩ : ∃ j_ : Int, (wrap64 ((wrap64 (Int.tdiv a1 32)) + x29_1)) = j_ := ⟨_, rfl⟩
   replace H : (if 0 ≤ (ji19) then (if (ji19) < (x7_1.length : Int) then (if 0 ≤ (wrap64 ((ji19) + 1)) then (if (wrap64 ((ji19) + 1)) < (x7_1.length : Int) then (nats_Shl.l0 k1 (wrap64 (Int.tdiv a1 32)) (IntKind.u64.wrap (Int.tmod a1 32)) ((x7_1.set ((ji19) : Int).toNat (Go.bits .or .u32 (rd x7_1 (ji19)) ((ji18) % 4294967296))).set ((wrap64 ((ji19) + 1)) : Int).toNat (((ji18) / 4294967296) % 4294967296)) t177 (t177.length : Int) (wrap64 (x29_1 + 1))) else (none)) else (none)) else (none)) else (none)) = some r := by first | (rw [hji19] at H; exact H) | (simp only [hji19] at H ⊢; exact H)
   have hji19w : (IntKind.i64.wrap ((wrap64 (Int.tdiv a1 32)) + x29_1)) = ji19 := (Yi _).trans hji19
   by_cases c20 : 0 ≤ (ji19)
   rotate_left
   ·rw [if_neg c20] at H
    exact absurd H (by simp)
   rw [if_pos c20] at H
   have c20b0 : decide (0 ≤ (ji19)) = true := decide_eq_true c20
   clear c20
   by_cases c21 : (ji19) < (x7_1.length : Int)
   rotate_left
   ·rw [if_neg c21] at H
    exact absurd H (by simp)
   rw [if_pos c21] at H
   have c21b0 : decide ((ji19) < (x7_1.length : Int)) = true := decide_eq_true c21
   clear c21
   obtain ⟨y185, hy185⟩ : ∃ y_ : List Int, y_ = (x7_1.set ((ji19) : Int).toNat (Go.bits .or .u32 (rd x7_1 (ji19)) ((ji18) % 4294967296))) := ⟨_, rfl⟩
   replace H : (if 0 ≤ (wrap64 ((ji19) + 1)) then (if (wrap64 ((ji19) + 1)) < (x7_1.length : Int) then (nats_Shl.l0 k1 (wrap64 (Int.tdiv a1 32)) (IntKind.u64.wrap (Int.tmod a1 32)) (y185.set ((wrap64 ((ji19) + 1)) : Int).toNat (((ji18) / 4294967296) % 4294967296)) t177 (t177.length : Int) (wrap64 (x29_1 + 1))) else (none)) else (none)) = some r := Qh hy185 H
   have Ny185 := Yt.mk hy185
   clear hy185
   obtain ⟨ji23, hji23⟩ : ∃ j_ : Int, (wrap64 ((ji19) + 1)) = j_ := ⟨_, rfl⟩
   replace H : (if 0 ≤ (ji23) then (if (ji23) < (x7_1.length : Int) then (nats_Shl.l0 k1 (wrap64 (Int.tdiv a1 32)) (IntKind.u64.wrap (Int.tmod a1 32)) (y185.set ((ji23) : Int).toNat (((ji18) / 4294967296) % 4294967296)) t177 (t177.length : Int) (wrap64 (x29_1 + 1))) else (none)) else (none)) = some r := by first | (rw [hji23] at H; exact H) | (simp only [hji23] at H ⊢; exact H)
   have hji23w : (IntKind.i64.wrap ((ji19) + 1)) = ji23 := (Yi _).trans hji23
   by_cases c24 : 0 ≤ (ji23)
   rotate_left
   ·rw [if_neg c24] at H
    exact absurd H (by simp)
   rw [if_pos c24] at H
   have c24b0 : decide (0 ≤ (ji23)) = true := decide_eq_true c24
   clear c24
   by_cases c25 : (ji23) < (x7_1.length : Int)
   rotate_left
   ·rw [if_neg c25] at H
    exact absurd H (by simp)
   rw [if_pos c25] at H
   have c25b0 : decide ((ji23) < (x7_1.length : Int)) = true := decide_eq_true c25
   clear c25
   obtain ⟨y186, hy186⟩ : ∃ y_ : List Int, y_ = (y185.set ((ji23) : Int).toNat (((ji18) / 4294967296) % 4294967296)) := ⟨_, rfl⟩
   replace H : (nats_Shl.l0 k1 (wrap64 (Int.tdiv a1 32)) (IntKind.u64.wrap (Int.tmod a1 32)) y186 t177 (t177.length : Int) (wrap64 (x29_1 + 1))) = some r := Qh hy186 H
   have Ny186 := Yt.mk hy186
   clear hy186
   have H' := Yt.mk H
   clear H
   have p183 : 0 ≤ (x29_1 : Int) := Qd
   have q183 : x29_1 < (t177.length : Int) := Qd
   obtain ⟨ad183, e183, hx183_0⟩ := Kd.at_int (Kd.Yn HO_27.out).2.2 x29_1 p183 q183
   cases e183
   replace p183 := eq_true p183
   replace q183 := eq_true q183
   obtain ⟨Ao27, co27, eo27⟩ := Kd.Zx HO_7.out
   subst eo27
   have p184 : 0 ≤ ((ji19) : Int) := Qd
   have q184 : (ji19) < (x7_1.length : Int) := Qd
   obtain ⟨ad184, e184, hx184_0⟩ := Kd.at_int (Kd.Zs HO_7.out).2.2 (ji19) p184 q184
   cases e184
   replace p184 := eq_true p184
   replace q184 := eq_true q184
   have p22 : 0 ≤ ((ji19) : Int) := Qd
   have q22 : ((ji19) : Int) < ((x7_1.length : Int) : Int) := Qd
   obtain ⟨go22, co22, eo22, gb22, gl22, cl22, HG22⟩ := Kd.R_form HO_7.out (by omega)
   (first | cases eo22 | (injection eo22 with ea_ en_ ec_; (first | subst ea_ | (injection ea_ with ea_; subst ea_)); subst ec_; clear en_))
   have GB22 := Yt.mk gb22
   have GG22 := Yt.mk HG22
   clear gb22 gl22 HG22
   (first | simp only [add_plain] at hx184_0 | skip)
   obtain ⟨hx22_0, hf22_0⟩ := Kd.R_celln 0 HO_7.out ((ji19) : Int) p22 q22
   replace p22 := eq_true p22
   replace q22 := eq_true q22
   obtain ⟨hy28_, hz28_⟩ := Kd.R_celln 0 HO_7.out ((ji19) : Int) (Qd) (Qd)
   have HP28 := Kd.R_putg HO_7.out ((ji19) : Int) (Go.bits .or .u32 (rd x7_1 (ji19)) ((ji18) % 4294967296))
   go_wp2_with (first | ((with_reducible refine gate_store (t := 47) (p := 47) rfl ?_); refine store_event (t := 47) (p := 47) (v := ?vo_w29) (w1 := (wr.setCell ⟨go22, ((ji19) : Int).toNat, none⟩ (.int .u32 (Go.bits .or .u32 (rd x7_1 (ji19)) ((ji18) % 4294967296))))) ?hg ?ho ?hn ?hr ?_; (case ho => rfl); (case hg => rfl); (case hn => rfl); (case hr => exact Qa9); intro w29 hw; have hg : wr.grownBy w29 (some go22) := (by rw [hw]; exact HP28.2); have hp_ : Kd.R (Kd.int .u32) 47 w29 w.heap.size (fun _ => True) (.slice (some ⟨go22, 0, none⟩) x7_1.length co27) y185 := (by rw [hw, Ny185.out]; exact HP28.1); clear HP28; replace HO_7 := Yt.mk (hp_); replace HO_27 := Yt.mk (Kd.V_afterv (v := (.slice (some ⟨go22, 0, none⟩) x7_1.length co27)) (v1 := (.slice (some ⟨go22, 0, none⟩) x7_1.length co27)) (ok := (fun _ => True)) (by (with_reducible repeat (first | apply Kd.Zz | apply Kd.Zy | apply Kd.Ye)); exact Kd.Yp HO_27.out (fun _ hk => ⟨trivial, hk⟩)) hg (.inl rfl)); replace HB := Yt.mk ((by rw [hw]; exact Zd (HB.out) GB22.out : Below w.heap.size w w29)); clear hg hw hp_; have p26 : 0 ≤ ((ji23) : Int) := Qd; have q26 : ((ji23) : Int) < ((x7_1.length : Int) : Int) := Qd; obtain ⟨hx26_0, hf26_0⟩ := Kd.R_celln 0 HO_7.out ((ji23) : Int) p26 q26; replace p26 := eq_true p26; replace q26 := eq_true q26; obtain ⟨hy30_, hz30_⟩ := Kd.R_celln 0 HO_7.out ((ji23) : Int) (Qd) (Qd); have HP30 := Kd.R_putg HO_7.out ((ji23) : Int) (((ji18) / 4294967296) % 4294967296)) | ((with_reducible refine gate_store (t := 47) (p := 56) rfl ?_); refine store_event (t := 47) (p := 56) (v := ?vo_w31) (w1 := (w29.setCell ⟨go22, ((ji23) : Int).toNat, none⟩ (.int .u32 (((ji18) / 4294967296) % 4294967296)))) ?hg ?ho ?hn ?hr ?_; (case ho => rfl); (case hg => rfl); (case hn => rfl); (case hr => exact Qa9); intro w31 hw; have hg : w29.grownBy w31 (some go22) := (by rw [hw]; exact HP30.2); have hp_ : Kd.R (Kd.int .u32) 47 w31 w.heap.size (fun _ => True) (.slice (some ⟨go22, 0, none⟩) x7_1.length co27) y186 := (by rw [hw, Ny186.out]; exact HP30.1); clear HP30; replace HO_7 := Yt.mk (hp_); replace HO_27 := Yt.mk (Kd.V_afterv (v := (.slice (some ⟨go22, 0, none⟩) x7_1.length co27)) (v1 := (.slice (some ⟨go22, 0, none⟩) x7_1.length co27)) (ok := (fun _ => True)) (Qr7 HO_27.out) hg (.inl rfl)); replace HB := Yt.mk ((by rw [hw]; exact Zd (HB.out) GB22.out : Below w.heap.size w w31)); clear hg hw hp_))
   go_roundg k1
   case measure => have := HK1.out; omega
   case rel => exact ⟨(y186), (wrap64 (x29_1 + 1)), Qa5, H', ⟨by have := HK1.out; omega⟩, ⟨Qr1 HO_7.out⟩, ⟨by (with_reducible repeat (first | apply Kd.Zz | apply Kd.Zy | apply Kd.Ye)); exact Kd.Yp HO_27.out (fun _ hk => hk.2)⟩, ⟨Qa0⟩⟩
def nats_Shr.l0 : Nat → List Int → Int → Int → List Int → Int → Int → Option (List Int)
 | 0, _, _, _, _, _, _ => none
 | k + 1, x0, x5, x6, x7, x27, x28 => if x28 < x27 then (if 0 ≤ (wrap64 (x5 + x28)) then (if (wrap64 (x5 + x28)) < (x0.length : Int) then (if (wrap64 ((wrap64 (x5 + x28)) + 1)) < (x0.length : Int) then (if 0 ≤ (wrap64 ((wrap64 (x5 + x28)) + 1)) then (if 0 ≤ x6 then (if 0 ≤ x28 then (if x28 < (x7.length : Int) then (nats_Shr.l0 k x0 x5 x6 (x7.set (x28 : Int).toNat ((shr .u64 (Go.bits .or .u64 (IntKind.u64.wrap (rd x0 (wrap64 (x5 + x28)))) (IntKind.u64.wrap ((IntKind.u64.wrap (rd x0 (wrap64 ((wrap64 (x5 + x28)) + 1)))) * 4294967296))) x6) % 4294967296)) x27 (wrap64 (x28 + 1))) else (none)) else (none)) else (none)) else (none)) else (if 0 ≤ x6 then (if 0 ≤ x28 then (if x28 < (x7.length : Int) then (nats_Shr.l0 k x0 x5 x6 (x7.set (x28 : Int).toNat ((shr .u64 (IntKind.u64.wrap (rd x0 (wrap64 (x5 + x28)))) x6) % 4294967296)) x27 (wrap64 (x28 + 1))) else (none)) else (none)) else (none))) else (none)) else (none)) else ((nats_cuto.f k x7).bind fun t219 => (some t219))
def nats_Shr.f (k : Nat) (l0 : List Int) (a1 : Int) : Option (List Int) := (nats_cut.f k l0).bind fun t209 => (if (wrap64 (Int.tdiv a1 32)) ≥ (t209.length : Int) then (some ([] : List Int)) else (if 0 ≤ (wrap64 ((t209.length : Int) - (wrap64 (Int.tdiv a1 32)))) then (if (wrap64 ((t209.length : Int) - (wrap64 (Int.tdiv a1 32))) : Int).toNat ≤ 70368744177664 then ((some (List.replicate (wrap64 ((t209.length : Int) - (wrap64 (Int.tdiv a1 32))) : Int).toNat 0 : List Int)).bind fun y212 => (nats_Shr.l0 k t209 (wrap64 (Int.tdiv a1 32)) (IntKind.u64.wrap (Int.tmod a1 32)) y212 (y212.length : Int) 0)) else (none)) else (none)))
theorem nats_Shr.mono_l : ∀ k, (∀ y0 y1 y2 y3 y4 y5, LeO (nats_Shr.l0 k y0 y1 y2 y3 y4 y5) (nats_Shr.l0 (k + 1) y0 y1 y2 y3 y4 y5))
 | 0 => fun _ _ _ _ _ _ r h => by simp [nats_Shr.l0] at h
 | k + 1 => by
  have ih0 := nats_Shr.mono_l k
  ·intro y0 y1 y2 y3 y4 y5
   unfold nats_Shr.l0
   have m0 := @nats_cut.mono
   have m1 := @nats_cuto.mono
   exact Qa6
theorem nats_Shr.mono : ∀ a0 a1 k, LeO (nats_Shr.f k a0 a1) (nats_Shr.f (k + 1) a0 a1) := by
 intro a0 a1 k
 have ih0 := nats_Shr.mono_l k
 unfold nats_Shr.f
 have m0 := @nats_cut.mono
 have m1 := @nats_cuto.mono
 exact Qa6
theorem nats_Shr.calls (k : Nat) (A0 : Option Addr) (c0 : Nat) (l0 : List Int) (a1 : Int) (r : List Int) (w : World) (hr0 : Kd.C (Kd.int .u32) w A0 l0.length l0) (hc0 : l0.length ≤ c0) (h : nats_Shr.f k l0 a1 = some r) :
  Calls Try.prog 114 #[.slice A0 l0.length c0, .int .i64 a1] w fun e w' => ∃ v0_ : Value, e = .returned (v0_) ∧ Kd.R (Kd.int .u32) 47 w' w.heap.size (fun _ => True) v0_ r ∧ Below w.heap.size w w' := by
 have HR0 := Yt.mk hr0
 have HC0 := Yt.mk hc0
 clear hr0 hc0
 have HB := Yt.mk (Below.refl w.heap.size w)
 unfold nats_Shr.f at h
 have H := h
 clear h
 replace H := Option.bind_eq_some_iff.mp H
 obtain ⟨t209, A30, H⟩ := H
 try dsimp only at H
 have A3 := Yt.mk A30
 clear A30
 by_cases c4 : (wrap64 (Int.tdiv a1 32)) ≥ (t209.length : Int)
 ·rw [if_pos c4] at H
  have c4b0 : decide ((t209.length : Int) ≤ (wrap64 (Int.tdiv a1 32))) = true := decide_eq_true c4
  clear c4
  obtain rfl := Option.some.inj H
  go_enter Try.func114, Try.ntmps114
  go_wp2_with (first | ((with_reducible refine Zr (f := 108) rfl ?_); refine Yg (some 11) rfl rfl Try.func108 Qa8 rfl #[.slice A0 l0.length c0] rfl Qa2 ?_; (with_reducible refine (nats_cut.calls k (fun k_ => k_ < w.heap.size) _ _ l0 t209 _ ?side1 A3.out).mono ?_); (case side1 => exact Kd.V_mk HC0.out (Kd.F_below (Kd.C_F (Kd.heap_int .u32) HR0.out) (Qa0))); rintro e w5 ⟨v210, rfl, ho0, hb⟩; refine ⟨_, rfl, ?_⟩; have HO211 := Yt.mk (Kd.V_lower (Kd.Yp (ok' := fun k_ => True) ho0 (fun k_ hk_ => trivial)) (Zk (Qa0))); replace HB := Yt.mk (Zm (Qa0) hb); (try clear hb); (try clear ho0); obtain ⟨Ao6, co6, eo6⟩ := Kd.V_slice HO211.out; subst eo6))
  go_ret
  exact ⟨_, Qa4, by first | exact Kd.R_nil _ _ _ _ _ | exact Kd.N_nil _ _ _ _ _ | exact Kd.V_nil _ _ _ _ _ | exact Kd.Q_nil _ _ _ _ _ | exact Kd.S_nil _ _ _ _ _, Qa0⟩
 rw [if_neg c4] at H
 have c4b0 : decide ((t209.length : Int) ≤ (wrap64 (Int.tdiv a1 32))) = false := decide_eq_false c4
 clear c4
 obtain ⟨ji7, hji7⟩ : ∃ j_ : Int, (wrap64 ((t209.length : Int) - (wrap64 (Int.tdiv a1 32)))) = j_ := ⟨_, rfl⟩
 replace H : (if 0 ≤ (ji7) then (if (ji7 : Int).toNat ≤ 70368744177664 then ((some (List.replicate (ji7 : Int).toNat 0 : List Int)).bind fun y212 => (nats_Shr.l0 k t209 (wrap64 (Int.tdiv a1 32)) (IntKind.u64.wrap (Int.tmod a1 32)) y212 (y212.length : Int) 0)) else (none)) else (none)) = some r := by first | (rw [hji7] at H; exact H) | (simp only [hji7] at H ⊢; exact H)
 (try rw [hji7] at A3)
 have hji7w : (IntKind.i64.wrap ((t209.length : Int) - (wrap64 (Int.tdiv a1 32)))) = ji7 := (Yi _).trans hji7
 by_cases c8 : 0 ≤ (ji7)
 rotate_left
 ·rw [if_neg c8] at H
  exact absurd H (by simp)
 rw [if_pos c8] at H
 have c8b0 := eq_true c8
 have c8b1 : decide (0 ≤ (ji7)) = true := decide_eq_true c8
 clear c8
 by_cases c9 : (ji7 : Int).toNat ≤ 70368744177664
 rotate_left
 ·rw [if_neg c9] at H
  exact absurd H (by simp)
 rw [if_pos c9] at H
 have c9b0 := eq_true c9
 have c9b1 : decide ((ji7 : Int).toNat ≤ 70368744177664) = true := decide_eq_true c9
 clear c9
 obtain ⟨y212, hy212⟩ : ∃ y_ : List Int, y_ = (List.replicate (ji7 : Int).toNat 0) := ⟨_, rfl⟩
 replace H : (nats_Shr.l0 k t209 (wrap64 (Int.tdiv a1 32)) (IntKind.u64.wrap (Int.tmod a1 32)) y212 (y212.length : Int) 0) = some r := Qh hy212 H
 have Ny212 := Yt.mk hy212
 clear hy212
 have H' := Yt.mk H
 clear H
 go_enter Try.func114, Try.ntmps114
 go_wp2_with (first | ((with_reducible refine Zr (f := 108) rfl ?_); refine Yg (some 11) rfl rfl Try.func108 Qa8 rfl #[.slice A0 l0.length c0] rfl Qa2 ?_; (with_reducible refine (nats_cut.calls k (fun k_ => k_ < w.heap.size) _ _ l0 t209 _ ?side1 A3.out).mono ?_); (case side1 => exact Kd.V_mk HC0.out (Kd.F_below (Kd.C_F (Kd.heap_int .u32) HR0.out) (Qa0))); rintro e w10 ⟨v210, rfl, ho0, hb⟩; refine ⟨_, rfl, ?_⟩; have HO211 := Yt.mk (Kd.V_lower (Kd.Yp (ok' := fun k_ => True) ho0 (fun k_ hk_ => trivial)) (Zk (Qa0))); replace HB := Yt.mk (Zm (Qa0) hb); (try clear hb); (try clear ho0); obtain ⟨Ao11, co11, eo11⟩ := Kd.V_slice HO211.out; subst eo11) | ((with_reducible refine Yk (N := 25) rfl ?_); refine Kd.R_make (Kd.int .u32) _ 47 rfl (N := 25) rfl 22 _ _ rfl ji7 rfl rfl Try.underlying22 (.int .u32 0) 4 info47 rfl (by decide) (by omega) 0 (ok := fun _ => True) (okp := fun _ => True) rfl (fun _ hk => hk) trivial (Qd) (Nat.le_trans (Nat.mul_le_mul_right _ (Qd : ji7.toNat ≤ 70368744177664)) (by omega)) (Below.refl _ _) (Nat.le_refl _) ?_; intro v213 w12 ho13 hb hg_ hnew_; clear hg_ hnew_; (first | rw [← Ny212.out] at ho13 | (simp only [Int.reduceToNat] at ho13; rw [← Ny212.out] at ho13)); replace HO211 := Yt.mk (Kd.V_elder' (Qr7 HO211.out) (Kd.Zw ho13) hb); have HO214 := Yt.mk (Kd.Yb ho13 (Zk (Qa0))); replace HB := Yt.mk (Zm (Qa0) hb); clear hb ho13; obtain ⟨Ao14, co14, eo14⟩ := Kd.Zx HO214.out; subst eo14))
 go_loopg [28] k (fun kq v28 w' => ∃ (x7_1 : List Int) (x28_1 : Int), v28 = .int .i64 x28_1 ∧ Yt (nats_Shr.l0 kq t209 (wrap64 (Int.tdiv a1 32)) (IntKind.u64.wrap (Int.tmod a1 32)) x7_1 (y212.length : Int) x28_1 = some r) ∧ Yt (kq ≤ k) ∧ Yt (Kd.V (Kd.int .u32) 47 w' w.heap.size (fun k_ => some k_ ≠ ((.slice Ao14 y212.length co14) : Value).ownBlock) (.slice Ao11 t209.length co11) t209) ∧ Yt (Kd.R (Kd.int .u32) 47 w' w.heap.size (fun _ => True) (.slice Ao14 y212.length co14) x7_1) ∧ Yt (Below w.heap.size w w'))
 case atStart => exact ⟨(y212), (0), Qa5, H', ⟨Nat.le_refl _⟩, ⟨by (with_reducible repeat (first | apply Kd.Zz | apply Kd.Zy | apply Kd.Ye)); exact Kd.Yp HO211.out (fun _ hk => hk.2)⟩, ⟨Qr1 HO214.out⟩, ⟨Qa0⟩⟩
 case round =>
  clear H'
  try clear c1; try clear p2; try clear c4; try clear c4b0; try clear p6; try clear c8; try clear c8b0; try clear c8b1; try clear c9; try clear c9b0; try clear c9b1; try clear c10; try clear c11
  obtain ⟨x7_1, x28_1, rfl, HA, HK1, HO_0, HO_7, HB⟩ := hrel
  have hl7_1 := (Kd.Zs HO_7.out).1
  rw [hl7_1] at HO_7
  (try simp only [hl7_1])
  (try simp only [hl7_1] at HO_0)
  cases gk with
  | zero => exact absurd HA.out (by simp [nats_Shr.l0])
  | succ k1 =>
   have H := HA.out
   clear HA
   simp only [nats_Shr.l0] at H
   by_cases c15 : x28_1 < (y212.length : Int)
   rotate_left
   ·rw [if_neg c15] at H
    have c15b0 : decide (x28_1 < (y212.length : Int)) = false := decide_eq_false c15
    (try (have c15b0hl7_1 := c15b0; rw [hl7_1] at c15b0hl7_1))
    clear c15
    replace H := Option.bind_eq_some_iff.mp H
    obtain ⟨t219, A360, H⟩ := H
    replace H : (some t219) = some r := H
    have A36 := Yt.mk A360
    clear A360
    obtain rfl := Option.some.inj H
    go_wp2_with (first | ((with_reducible refine Zr (f := 108) rfl ?_); refine Yg (some 65) rfl rfl Try.func108 Qa8 rfl #[.slice Ao14 x7_1.length co14] rfl Qa2 ?_; (with_reducible refine (nats_cuto.calls k1 (fun k_ => some k_ = (.slice Ao14 x7_1.length co14 : Value).ownBlock) (.slice Ao14 x7_1.length co14) x7_1 t219 w _ ?side1 ?side2 A36.out).mono ?_); (case side1 => repeat (first | (with_reducible first | exact HB.out | apply Zb | apply Za | apply Zc) | exact HB.out)); (case side2 => exact Kd.R_tight rfl HO_7.out); rintro e w37 ⟨v220, rfl, ho0, hb, hkp⟩; refine ⟨_, rfl, ?_⟩; replace HO_0 := Yt.mk (Kd.Yp (ok' := fun k_ => some k_ ≠ (v220 : Value).ownBlock) (Kd.V_keptB (HO_0.out) hkp (fun k_ hk_ hs_ => (hk_) hs_)) (fun k_ hk_ => fun e_ => Or.elim (ho0.1 k_ e_.symm) (fun hs_ => hk_.2.1 hs_) (fun hn_ => Nat.not_le.2 hk_.2.2 hn_))); have HO221 := Yt.mk (Kd.Zv (ok' := fun k_ => True) ho0 (fun k_ hk_ => trivial)); replace HB := Yt.mk (hb); clear HO_7; (try clear hb); (try clear hkp); (try clear ho0)))
    go_ret
    exact ⟨_, by first | rfl | (simp [Zp, Zo] <;> rfl) | (simp only [← hji7]; first | rfl | (simp [Zp, Zo] <;> rfl)) | (simp [*, Zp, Zo] <;> rfl), Qr1 HO221.out, Qa0⟩
   rw [if_pos c15] at H
   have c15b0 : decide (x28_1 < (y212.length : Int)) = true := decide_eq_true c15
   (try (have c15b0hl7_1 := c15b0; rw [hl7_1] at c15b0hl7_1))
   clear c15
   obtain ⟨ji16, hji16⟩ : ∃ j_ : Int, (wrap64 ((wrap64 (Int.tdiv a1 32)) + x28_1)) = j_ := ⟨_, rfl⟩
   replace H : (if 0 ≤ (ji16) then (if (ji16) < (t209.length : Int) then (if (wrap64 ((ji16) + 1)) < (t209.length : Int) then (if 0 ≤ (wrap64 ((ji16) + 1)) then (if 0 ≤ (IntKind.u64.wrap (Int.tmod a1 32)) then (if 0 ≤ x28_1 then (if x28_1 < (x7_1.length : Int) then (nats_Shr.l0 k1 t209 (wrap64 (Int.tdiv a1 32)) (IntKind.u64.wrap (Int.tmod a1 32)) (x7_1.set (x28_1 : Int).toNat ((shr .u64 (Go.bits .or .u64 (IntKind.u64.wrap (rd t209 (ji16))) (IntKind.u64.wrap ((IntKind.u64.wrap (rd t209 (wrap64 ((ji16) + 1)))) * 4294967296))) (IntKind.u64.wrap (Int.tmod a1 32))) % 4294967296)) (y212.length : Int) (wrap64 (x28_1 + 1))) else (none)) else (none)) else (none)) else (none)) else (if 0 ≤ (IntKind.u64.wrap (Int.tmod a1 32)) then (if 0 ≤ x28_1 then (if x28_1 < (x7_1.length : Int) then (nats_Shr.l0 k1 t209 (wrap64 (Int.tdiv a1 32)) (IntKind.u64.wrap (Int.tmod a1 32)) (x7_1.set (x28_1 : Int).toNat ((shr .u64 (IntKind.u64.wrap (rd t209 (ji16))) (IntKind.u64.wrap (Int.tmod a1 32))) % 4294967296)) (y212.length : Int) (wrap64 (x28_1 + 1))) else (none)) else (none)) else (none))) else (none)) else (none)) = some r := by first | (rw [hji16] at H; exact H) | (simp only [hji16] at H ⊢; exact H)
   have hji16w : (IntKind.i64.wrap ((wrap64 (Int.tdiv a1 32)) + x28_1)) = ji16 := (Yi _).trans hji16
   by_cases c17 : 0 ≤ (ji16)
   rotate_left
   ·rw [if_neg c17] at H
    exact absurd H (by simp)
   rw [if_pos c17] at H
   have c17b0 : decide (0 ≤ (ji16)) = true := decide_eq_true c17
   clear c17
   by_cases c18 : (ji16) < (t209.length : Int)
   rotate_left
   ·rw [if_neg c18] at H
    exact absurd H (by simp)
   rw [if_pos c18] at H
   have c18b0 : decide ((ji16) < (t209.length : Int)) = true := decide_eq_true c18
   (try (have c18b0hl7_1 := c18b0; rw [hl7_1] at c18b0hl7_1))
   clear c18
   by_cases c19 : (wrap64 ((ji16) + 1)) < (t209.length : Int)
   rotate_left
   ·rw [if_neg c19] at H
    have c19b0 : decide ((wrap64 ((ji16) + 1)) < (t209.length : Int)) = false := decide_eq_false c19
    (try (have c19b0hl7_1 := c19b0; rw [hl7_1] at c19b0hl7_1))
    clear c19
    by_cases c29 : 0 ≤ (IntKind.u64.wrap (Int.tmod a1 32))
    rotate_left
    ·rw [if_neg c29] at H
     exact absurd H (by simp)
    rw [if_pos c29] at H
    have c29b0 := eq_true c29
    have c29b1 : decide (0 ≤ (IntKind.u64.wrap (Int.tmod a1 32))) = true := decide_eq_true c29
    clear c29
    obtain ⟨ji30, hji30⟩ : ∃ j_ : Int, (shr .u64 (IntKind.u64.wrap (rd t209 (ji16))) (IntKind.u64.wrap (Int.tmod a1 32))) = j_ := ⟨_, rfl⟩
    replace H : (if 0 ≤ x28_1 then (if x28_1 < (x7_1.length : Int) then (nats_Shr.l0 k1 t209 (wrap64 (Int.tdiv a1 32)) (IntKind.u64.wrap (Int.tmod a1 32)) (x7_1.set (x28_1 : Int).toNat ((ji30) % 4294967296)) (y212.length : Int) (wrap64 (x28_1 + 1))) else (none)) else (none)) = some r := by first | (rw [hji30] at H; exact H) | (simp only [hji30] at H ⊢; exact H)
    have hji30_ : ((IntKind.u64.wrap (rd t209 (ji16))) / 2 ^ min (IntKind.u64.wrap (Int.tmod a1 32)).toNat 64) = ji30 := hji30
    have hji30z : (IntKind.u64.wrap (Int.tmod a1 32)) ≤ 64 → ((IntKind.u64.wrap (rd t209 (ji16))) / 2 ^ (IntKind.u64.wrap (Int.tmod a1 32)).toNat) = ji30 := shr_small hji30
    by_cases c31 : 0 ≤ x28_1
    rotate_left
    ·rw [if_neg c31] at H
     exact absurd H (by simp)
    rw [if_pos c31] at H
    have c31b0 : decide (0 ≤ x28_1) = true := decide_eq_true c31
    clear c31
    by_cases c32 : x28_1 < (x7_1.length : Int)
    rotate_left
    ·rw [if_neg c32] at H
     exact absurd H (by simp)
    rw [if_pos c32] at H
    have c32b0 : decide (x28_1 < (x7_1.length : Int)) = true := decide_eq_true c32
    (try (have c32b0hl7_1 := c32b0; rw [hl7_1] at c32b0hl7_1))
    clear c32
    obtain ⟨y218, hy218⟩ : ∃ y_ : List Int, y_ = (x7_1.set (x28_1 : Int).toNat ((ji30) % 4294967296)) := ⟨_, rfl⟩
    replace H : (nats_Shr.l0 k1 t209 (wrap64 (Int.tdiv a1 32)) (IntKind.u64.wrap (Int.tmod a1 32)) y218 (y212.length : Int) (wrap64 (x28_1 + 1))) = some r := Qh hy218 H
    have Ny218 := Yt.mk hy218
    clear hy218
    have H' := Yt.mk H
    clear H
    have p215 : 0 ≤ ((ji16) : Int) := Qd
    have q215 : (ji16) < (t209.length : Int) := Qd
    obtain ⟨ad215, e215, hx215_0⟩ := Kd.at_int (Kd.Yn HO_0.out).2.2 (ji16) p215 q215
    cases e215
    replace p215 := eq_true p215
    replace q215 := eq_true q215
    have p33 : 0 ≤ (x28_1 : Int) := Qd
    have q33 : (x28_1 : Int) < ((x7_1.length : Int) : Int) := Qd
    obtain ⟨go33, co33, eo33, gb33, gl33, cl33, HG33⟩ := Kd.R_form HO_7.out (by omega)
    (first | cases eo33 | (injection eo33 with ea_ en_ ec_; (first | subst ea_ | (injection ea_ with ea_; subst ea_)); subst ec_; clear en_))
    have GB33 := Yt.mk gb33
    have GG33 := Yt.mk HG33
    clear gb33 gl33 HG33
    obtain ⟨hx33_0, hf33_0⟩ := Kd.R_celln 0 HO_7.out (x28_1 : Int) p33 q33
    replace p33 := eq_true p33
    replace q33 := eq_true q33
    obtain ⟨hy34_, hz34_⟩ := Kd.R_celln 0 HO_7.out (x28_1 : Int) (Qd) (Qd)
    have HP34 := Kd.R_putg HO_7.out (x28_1 : Int) ((ji30) % 4294967296)
    go_wp2_with (first | ((with_reducible refine gate_store (t := 47) (p := 62) rfl ?_); refine store_event (t := 47) (p := 62) (v := ?vo_w35) (w1 := (wr.setCell ⟨go33, (x28_1 : Int).toNat, none⟩ (.int .u32 ((ji30) % 4294967296)))) ?hg ?ho ?hn ?hr ?_; (case ho => rfl); (case hg => rfl); (case hn => rfl); (case hr => exact Qa9); intro w35 hw; have hg : wr.grownBy w35 (some go33) := (by rw [hw]; exact HP34.2); have hp_ : Kd.R (Kd.int .u32) 47 w35 w.heap.size (fun _ => True) (.slice (some ⟨go33, 0, none⟩) x7_1.length co14) y218 := (by rw [hw, Ny218.out]; exact HP34.1); clear HP34; replace HO_0 := Yt.mk (Kd.V_afterv (v := (.slice (some ⟨go33, 0, none⟩) x7_1.length co14)) (v1 := (.slice (some ⟨go33, 0, none⟩) x7_1.length co14)) (ok := (fun _ => True)) (by (with_reducible repeat (first | apply Kd.Zz | apply Kd.Zy | apply Kd.Ye)); exact Kd.Yp HO_0.out (fun _ hk => ⟨trivial, hk⟩)) hg (.inl rfl)); replace HO_7 := Yt.mk (hp_); replace HB := Yt.mk ((by rw [hw]; exact Zd (HB.out) GB33.out : Below w.heap.size w w35)); clear hg hw hp_))
    (try simp only [← hl7_1])
    go_roundg k1
    case measure => have := HK1.out; omega
    case rel => exact ⟨(y218), (wrap64 (x28_1 + 1)), Qa5, H', ⟨by have := HK1.out; omega⟩, ⟨by (try simp only [hl7_1]); (with_reducible repeat (first | apply Kd.Zz | apply Kd.Zy | apply Kd.Ye)); exact Kd.Yp HO_0.out (fun _ hk => hk.2)⟩, ⟨by (try simp only [hl7_1]); (with_reducible repeat (first | apply Kd.Zf | apply Kd.Ze | apply Kd.Zj)); exact HO_7.out⟩, ⟨Qa0⟩⟩
   rw [if_pos c19] at H
   have c19b0 : decide ((wrap64 ((ji16) + 1)) < (t209.length : Int)) = true := decide_eq_true c19
   (try (have c19b0hl7_1 := c19b0; rw [hl7_1] at c19b0hl7_1))
   clear c19
   obtain ⟨ji20, hji20⟩ : ∃ j_ : Int, (wrap64 ((ji16) + 1)) = j_ := ⟨_, rfl⟩
   replace H : (if 0 ≤ (ji20) then (if 0 ≤ (IntKind.u64.wrap (Int.tmod a1 32)) then (if 0 ≤ x28_1 then (if x28_1 < (x7_1.length : Int) then (nats_Shr.l0 k1 t209 (wrap64 (Int.tdiv a1 32)) (IntKind.u64.wrap (Int.tmod a1 32)) (x7_1.set (x28_1 : Int).toNat ((shr .u64 (Go.bits .or .u64 (IntKind.u64.wrap (rd t209 (ji16))) (IntKind.u64.wrap ((IntKind.u64.wrap (rd t209 (ji20))) * 4294967296))) (IntKind.u64.wrap (Int.tmod a1 32))) % 4294967296)) (y212.length : Int) (wrap64 (x28_1 + 1))) else (none)) else (none)) else (none)) else (none)) = some r := by first | (rw [hji20] at H; exact H) | (simp only [hji20] at H ⊢; exact H)
   (try rw [hji20] at c19b0)
   have hji20w : (IntKind.i64.wrap ((ji16) + 1)) = ji20 := (Yi _).trans hji20
   by_cases c21 : 0 ≤ (ji20)
   rotate_left
   ·rw [if_neg c21] at H
    exact absurd H (by simp)
   rw [if_pos c21] at H
   have c21b0 : decide (0 ≤ (ji20)) = true := decide_eq_true c21
   clear c21
   by_cases c22 : 0 ≤ (IntKind.u64.wrap (Int.tmod a1 32))
   rotate_left
   ·rw [if_neg c22] at H
    exact absurd H (by simp)
   rw [if_pos c22] at H
   have c22b0 := eq_true c22
   have c22b1 : decide (0 ≤ (IntKind.u64.wrap (Int.tmod a1 32))) = true := decide_eq_true c22
   clear c22
   obtain ⟨ji23, hji23⟩ : ∃ j_ : Int, (shr .u64 (Go.bits .or .u64 (IntKind.u64.wrap (rd t209 (ji16))) (IntKind.u64.wrap ((IntKind.u64.wrap (rd t209 (ji20))) * 4294967296))) (IntKind.u64.wrap (Int.tmod a1 32))) = j_ := ⟨_, rfl⟩
   replace H : (if 0 ≤ x28_1 then (if x28_1 < (x7_1.length : Int) then (nats_Shr.l0 k1 t209 (wrap64 (Int.tdiv a1 32)) (IntKind.u64.wrap (Int.tmod a1 32)) (x7_1.set (x28_1 : Int).toNat ((ji23) % 4294967296)) (y212.length : Int) (wrap64 (x28_1 + 1))) else (none)) else (none)) = some r := by first | (rw [hji23] at H; exact H) | (simp only [hji23] at H ⊢; exact H)
   have hji23_ : ((Go.bits .or .u64 (IntKind.u64.wrap (rd t209 (ji16))) (IntKind.u64.wrap ((IntKind.u64.wrap (rd t209 (ji20))) * 4294967296))) / 2 ^ min (IntKind.u64.wrap (Int.tmod a1 32)).toNat 64) = ji23 := hji23
   have hji23z : (IntKind.u64.wrap (Int.tmod a1 32)) ≤ 64 → ((Go.bits .or .u64 (IntKind.u64.wrap (rd t209 (ji16))) (IntKind.u64.wrap ((IntKind.u64.wrap (rd t209 (ji20))) * 4294967296))) / 2 ^ (IntKind.u64.wrap (Int.tmod a1 32)).toNat) = ji23 := shr_small hji23
   by_cases c24 : 0 ≤ x28_1
   rotate_left
   ·rw [if_neg c24] at H
    exact absurd H (by simp)
   rw [if_pos c24] at H
   have c24b0 : decide (0 ≤ x28_1) = true := decide_eq_true c24
   clear c24
   by_cases c25 : x28_1 < (x7_1.length : Int)
   rotate_left
   ·rw [if_neg c25] at H
    exact absurd H (by simp)
   rw [if_pos c25] at H
   have c25b0 : decide (x28_1 < (x7_1.length : Int)) = true := decide_eq_true c25
   (try (have c25b0hl7_1 := c25b0; rw [hl7_1] at c25b0hl7_1))
   clear c25
   obtain ⟨y217, hy217⟩ : ∃ y_ : List Int, y_ = (x7_1.set (x28_1 : Int).toNat ((ji23) % 4294967296)) := ⟨_, rfl⟩
   replace H : (nats_Shr.l0 k1 t209 (wrap64 (Int.tdiv a1 32)) (IntKind.u64.wrap (Int.tmod a1 32)) y217 (y212.length : Int) (wrap64 (x28_1 + 1))) = some r := Qh hy217 H
   have Ny217 := Yt.mk hy217
   clear hy217
   have H' := Yt.mk H
   clear H
   have p215 : 0 ≤ ((ji16) : Int) := Qd
   have q215 : (ji16) < (t209.length : Int) := Qd
   obtain ⟨ad215, e215, hx215_0⟩ := Kd.at_int (Kd.Yn HO_0.out).2.2 (ji16) p215 q215
   cases e215
   replace p215 := eq_true p215
   replace q215 := eq_true q215
   have p216 : 0 ≤ ((ji20) : Int) := Qd
   have q216 : (ji20) < (t209.length : Int) := Qd
   obtain ⟨ad216, e216, hx216_0⟩ := Kd.at_int (Kd.Yn HO_0.out).2.2 (ji20) p216 q216
   obtain rfl : ad215 = ad216 := (by injection e216)
   replace p216 := eq_true p216
   replace q216 := eq_true q216
   have p26 : 0 ≤ (x28_1 : Int) := Qd
   have q26 : (x28_1 : Int) < ((x7_1.length : Int) : Int) := Qd
   obtain ⟨go26, co26, eo26, gb26, gl26, cl26, HG26⟩ := Kd.R_form HO_7.out (by omega)
   (first | cases eo26 | (injection eo26 with ea_ en_ ec_; (first | subst ea_ | (injection ea_ with ea_; subst ea_)); subst ec_; clear en_))
   have GB26 := Yt.mk gb26
   have GG26 := Yt.mk HG26
   clear gb26 gl26 HG26
   obtain ⟨hx26_0, hf26_0⟩ := Kd.R_celln 0 HO_7.out (x28_1 : Int) p26 q26
   replace p26 := eq_true p26
   replace q26 := eq_true q26
   obtain ⟨hy27_, hz27_⟩ := Kd.R_celln 0 HO_7.out (x28_1 : Int) (Qd) (Qd)
   have HP27 := Kd.R_putg HO_7.out (x28_1 : Int) ((ji23) % 4294967296)
   go_wp2_with (first | ((with_reducible refine gate_store (t := 47) (p := 62) rfl ?_); refine store_event (t := 47) (p := 62) (v := ?vo_w28) (w1 := (wr.setCell ⟨go26, (x28_1 : Int).toNat, none⟩ (.int .u32 ((ji23) % 4294967296)))) ?hg ?ho ?hn ?hr ?_; (case ho => rfl); (case hg => rfl); (case hn => rfl); (case hr => exact Qa9); intro w28 hw; have hg : wr.grownBy w28 (some go26) := (by rw [hw]; exact HP27.2); have hp_ : Kd.R (Kd.int .u32) 47 w28 w.heap.size (fun _ => True) (.slice (some ⟨go26, 0, none⟩) x7_1.length co14) y217 := (by rw [hw, Ny217.out]; exact HP27.1); clear HP27; replace HO_0 := Yt.mk (Kd.V_afterv (v := (.slice (some ⟨go26, 0, none⟩) x7_1.length co14)) (v1 := (.slice (some ⟨go26, 0, none⟩) x7_1.length co14)) (ok := (fun _ => True)) (by (with_reducible repeat (first | apply Kd.Zz | apply Kd.Zy | apply Kd.Ye)); exact Kd.Yp HO_0.out (fun _ hk => ⟨trivial, hk⟩)) hg (.inl rfl)); replace HO_7 := Yt.mk (hp_); replace HB := Yt.mk ((by rw [hw]; exact Zd (HB.out) GB26.out : Below w.heap.size w w28)); clear hg hw hp_))
   (try simp only [← hl7_1])
   go_roundg k1
   case measure => have := HK1.out; omega
   case rel => exact ⟨(y217), (wrap64 (x28_1 + 1)), Qa5, H', ⟨by have := HK1.out; omega⟩, ⟨by (try simp only [hl7_1]); (with_reducible repeat (first | apply Kd.Zz | apply Kd.Zy | apply Kd.Ye)); exact Kd.Yp HO_0.out (fun _ hk => hk.2)⟩, ⟨by (try simp only [hl7_1]); (with_reducible repeat (first | apply Kd.Zf | apply Kd.Ze | apply Kd.Zj)); exact HO_7.out⟩, ⟨Qa0⟩⟩
def bits_Add32.f (a0 : Int) (a1 : Int) (a2 : Int) : Option (Int × Int) := some ((IntKind.u64.wrap ((IntKind.u64.wrap ((IntKind.u64.wrap (a0)) + (IntKind.u64.wrap (a1)))) + (IntKind.u64.wrap (a2)))) % 4294967296, ((IntKind.u64.wrap ((IntKind.u64.wrap ((IntKind.u64.wrap (a0)) + (IntKind.u64.wrap (a1)))) + (IntKind.u64.wrap (a2)))) / 4294967296) % 4294967296)
theorem bits_Add32.calls (a0 : Int) (a1 : Int) (a2 : Int) (r1 : Int) (r2 : Int) (w : World) (h : bits_Add32.f a0 a1 a2 = some (r1, r2)) :
  Calls Try.prog 115 #[.int .u32 a0, .int .u32 a1, .int .u32 a2] w fun e w' => e = .returned (.tuple #[.int .u32 r1, .int .u32 r2]) ∧ Drawn0 w w' := by
 unfold bits_Add32.f at h
 have H := h
 clear h
 simp only [Option.some.injEq, Prod.mk.injEq] at H
 obtain ⟨rfl, rfl⟩ := H
 go_enter Try.func115, Try.ntmps115
 go_wp2
 go_ret2
 exact ⟨by first | rfl | (simp; done) | (simp [*]; done), Qa10⟩
mutual
def nats_digit.j2 : Nat → List Int → List Int → Int → Int → Option (Int × List Int)
 | 0, _, _, _, _ => none
 | k + 1, x0, x1, x5, x7 => nats_digit.l1 k x0 x1 x5 x7 0 0 x5 0
def nats_digit.l1 : Nat → List Int → List Int → Int → Int → Int → Int → Int → Int → Option (Int × List Int)
 | 0, _, _, _, _, _, _, _, _ => none
 | k + 1, x0, x1, x5, x7, x9, x10, x82, x83 => if x83 < x82 then (if 0 ≤ x83 then (if x83 < (x1.length : Int) then (if x83 < (x0.length : Int) then (nats_digit.l1 k (x0.set (x83 : Int).toNat ((IntKind.u64.wrap ((IntKind.u64.wrap ((IntKind.u64.wrap (rd x0 x83)) - ((IntKind.u64.wrap ((IntKind.u64.wrap (x7 * (IntKind.u64.wrap (rd x1 x83)))) + x10)) % 4294967296))) - x9)) % 4294967296)) x1 x5 x7 ((IntKind.u64.wrap ((IntKind.u64.wrap ((IntKind.u64.wrap (rd x0 x83)) - ((IntKind.u64.wrap ((IntKind.u64.wrap (x7 * (IntKind.u64.wrap (rd x1 x83)))) + x10)) % 4294967296))) - x9)) / 9223372036854775808) ((IntKind.u64.wrap ((IntKind.u64.wrap (x7 * (IntKind.u64.wrap (rd x1 x83)))) + x10)) / 4294967296) x82 (wrap64 (x83 + 1))) else (none)) else (none)) else (none)) else (if 0 ≤ x5 then (if x5 < (x0.length : Int) then ((some (x0.set (x5 : Int).toNat ((IntKind.u64.wrap ((IntKind.u64.wrap ((IntKind.u64.wrap (rd x0 x5)) - x10)) - x9)) % 4294967296) : List Int)).bind fun y201 => (if ((IntKind.u64.wrap ((IntKind.u64.wrap ((IntKind.u64.wrap (rd x0 x5)) - x10)) - x9)) / 9223372036854775808) = 0 then (some ((x7) % 4294967296, y201)) else (nats_digit.l2 k y201 x1 x5 x7 0 x5 0))) else (none)) else (none))
def nats_digit.l2 : Nat → List Int → List Int → Int → Int → Int → Int → Int → Option (Int × List Int)
 | 0, _, _, _, _, _, _, _ => none
 | k + 1, x0, x1, x5, x7, x15, x135, x136 => if x136 < x135 then (if 0 ≤ x136 then (if x136 < (x0.length : Int) then (if x136 < (x1.length : Int) then ((bits_Add32.f (rd x0 x136) (rd x1 x136) x15).bind fun bt204 => (nats_digit.l2 k (x0.set (x136 : Int).toNat bt204.1) x1 x5 x7 bt204.2 x135 (wrap64 (x136 + 1)))) else (none)) else (none)) else (none)) else (if 0 ≤ x5 then (if x5 < (x0.length : Int) then (some ((IntKind.u64.wrap (x7 - 1)) % 4294967296, (x0.set (x5 : Int).toNat (((rd x0 x5) + x15) % 4294967296)))) else (none)) else (none))
def nats_digit.l0 : Nat → List Int → List Int → Int → Int → Int → Option (Int × List Int)
 | 0, _, _, _, _, _ => none
 | k + 1, x0, x1, x5, x7, x8 => if x7 ≥ 4294967296 then (nats_digit.j1 k x0 x1 x5 x7 x8 true) else (if 0 ≤ (wrap64 (x5 - 2)) then (if (wrap64 (x5 - 2)) < (x1.length : Int) then (if (wrap64 (x5 - 2)) < (x0.length : Int) then (nats_digit.j1 k x0 x1 x5 x7 x8 (decide ((IntKind.u64.wrap (x7 * (IntKind.u64.wrap (rd x1 (wrap64 (x5 - 2)))))) > (Go.bits .or .u64 (IntKind.u64.wrap (x8 * 4294967296)) (IntKind.u64.wrap (rd x0 (wrap64 (x5 - 2)))))))) else (none)) else (none)) else (none))
def nats_digit.j1 : Nat → List Int → List Int → Int → Int → Int → Bool → Option (Int × List Int)
 | 0, _, _, _, _, _, _ => none
 | k + 1, x0, x1, x5, x7, x8, x69 => if x69 = true then (if 0 ≤ (wrap64 (x5 - 1)) then (if (wrap64 (x5 - 1)) < (x1.length : Int) then (if (IntKind.u64.wrap (x8 + (IntKind.u64.wrap (rd x1 (wrap64 (x5 - 1)))))) ≥ 4294967296 then (nats_digit.j2 k x0 x1 x5 (IntKind.u64.wrap (x7 - 1))) else (nats_digit.l0 k x0 x1 x5 (IntKind.u64.wrap (x7 - 1)) (IntKind.u64.wrap (x8 + (IntKind.u64.wrap (rd x1 (wrap64 (x5 - 1)))))))) else (none)) else (none)) else (nats_digit.j2 k x0 x1 x5 x7)
end
def nats_digit.f (k : Nat) (l0 : List Int) (l1 : List Int) : Option (Int × List Int) := if 0 ≤ (l1.length : Int) then (if (l1.length : Int) < (l0.length : Int) then (if 0 ≤ (wrap64 ((l1.length : Int) - 1)) then (if (wrap64 ((l1.length : Int) - 1)) < (l0.length : Int) then (if (wrap64 ((l1.length : Int) - 1)) < (l1.length : Int) then (if (IntKind.u64.wrap (rd l1 (wrap64 ((l1.length : Int) - 1)))) = 0 then (none) else (nats_digit.l0 k l0 l1 (l1.length : Int) (IntKind.u64.wrap (Int.tdiv (Go.bits .or .u64 (IntKind.u64.wrap ((IntKind.u64.wrap (rd l0 (l1.length : Int))) * 4294967296)) (IntKind.u64.wrap (rd l0 (wrap64 ((l1.length : Int) - 1))))) (IntKind.u64.wrap (rd l1 (wrap64 ((l1.length : Int) - 1)))))) (Int.tmod (Go.bits .or .u64 (IntKind.u64.wrap ((IntKind.u64.wrap (rd l0 (l1.length : Int))) * 4294967296)) (IntKind.u64.wrap (rd l0 (wrap64 ((l1.length : Int) - 1))))) (IntKind.u64.wrap (rd l1 (wrap64 ((l1.length : Int) - 1))))))) else (none)) else (none)) else (none)) else (none)) else (none)
theorem nats_digit.mono_l : ∀ k, (∀ y0 y1 y2 y3, LeO (nats_digit.j2 k y0 y1 y2 y3) (nats_digit.j2 (k + 1) y0 y1 y2 y3)) ∧ (∀ y0 y1 y2 y3 y4 y5 y6 y7, LeO (nats_digit.l1 k y0 y1 y2 y3 y4 y5 y6 y7) (nats_digit.l1 (k + 1) y0 y1 y2 y3 y4 y5 y6 y7)) ∧ (∀ y0 y1 y2 y3 y4 y5 y6, LeO (nats_digit.l2 k y0 y1 y2 y3 y4 y5 y6) (nats_digit.l2 (k + 1) y0 y1 y2 y3 y4 y5 y6)) ∧ (∀ y0 y1 y2 y3 y4, LeO (nats_digit.l0 k y0 y1 y2 y3 y4) (nats_digit.l0 (k + 1) y0 y1 y2 y3 y4)) ∧ (∀ y0 y1 y2 y3 y4 y5, LeO (nats_digit.j1 k y0 y1 y2 y3 y4 y5) (nats_digit.j1 (k + 1) y0 y1 y2 y3 y4 y5))
 | 0 => ⟨fun _ _ _ _ r h => by simp [nats_digit.j2] at h, fun _ _ _ _ _ _ _ _ r h => by simp [nats_digit.l1] at h, fun _ _ _ _ _ _ _ r h => by simp [nats_digit.l2] at h, fun _ _ _ _ _ r h => by simp [nats_digit.l0] at h, fun _ _ _ _ _ _ r h => by simp [nats_digit.j1] at h⟩
 | k + 1 => by
  obtain ⟨ih0, ih1, ih2, ih3, ih4⟩ := nats_digit.mono_l k
  refine ⟨?_, ?_, ?_, ?_, ?_⟩
  ·intro y0 y1 y2 y3
   unfold nats_digit.j2
   exact Qa6
  ·intro y0 y1 y2 y3 y4 y5 y6 y7
   unfold nats_digit.l1
   exact Qa6
  ·intro y0 y1 y2 y3 y4 y5 y6
   unfold nats_digit.l2
   exact Qa6
  ·intro y0 y1 y2 y3 y4
   unfold nats_digit.l0
   exact Qa6
  ·intro y0 y1 y2 y3 y4 y5
   unfold nats_digit.j1
   exact Qa6
theorem nats_digit.mono : ∀ a0 a1 k, LeO (nats_digit.f k a0 a1) (nats_digit.f (k + 1) a0 a1) := by
 intro a0 a1 k
 obtain ⟨ih0, ih1, ih2, ih3, ih4⟩ := nats_digit.mono_l k
 unfold nats_digit.f
 exact Qa6
def ratio_one.f (l0 : List Int) : Option (Bool) := if (l0.length : Int) = 1 then (if 0 < (l0.length : Int) then (some ((rd l0 0) == 1)) else (none)) else (some false)
theorem ratio_one.calls (A0 : Option Addr) (c0 : Nat) (l0 : List Int) (r : Bool) (w : World) (hr0 : Kd.C (Kd.int .u32) w A0 l0.length l0) (hc0 : l0.length ≤ c0) (h : ratio_one.f l0 = some r) :
  Calls Try.prog 95 #[.slice A0 l0.length c0] w fun e w' => e = .returned (.bool r) ∧ Drawn0 w w' := by
 have HR0 := Yt.mk hr0
 have HC0 := Yt.mk hc0
 clear hr0 hc0
 unfold ratio_one.f at h
 have H := h
 clear h
 by_cases c2 : (l0.length : Int) = 1
 rotate_left
 ·rw [if_neg c2] at H
  have c2b0 : ((l0.length : Int) == 1) = false := beq_eq_false_iff_ne.mpr c2
  have c2b1 : ((l0.length : Int) != 1) = true := bne_iff_ne.mpr c2
  obtain rfl := Option.some.inj H
  go_enter Try.func95, Try.ntmps95
  go_wp2
  go_ret
  exact ⟨by first | rfl | (simp; done) | (simp [*]; done), Qa10⟩
 rw [if_pos c2] at H
 have c2b0 : ((l0.length : Int) == 1) = true := beq_iff_eq.mpr c2
 have c2b1 : ((l0.length : Int) != 1) = false := bne_eq_false_iff_eq.mpr c2
 clear c2
 by_cases c3 : 0 < (l0.length : Int)
 rotate_left
 ·rw [if_neg c3] at H
  exact absurd H (by simp)
 rw [if_pos c3] at H
 have c3b0 : decide (0 < (l0.length : Int)) = true := decide_eq_true c3
 have c3b1 : decide (0 < l0.length) = true := decide_eq_true (by omega)
 clear c3
 obtain rfl := Option.some.inj H
 have p989 : 0 ≤ (0 : Int) := (by omega)
 have q989 : 0 < (l0.length : Int) := Qd
 obtain ⟨ad989, e989, hx989_0⟩ := Kd.at_int HR0.out 0 p989 q989
 cases e989
 have qi989 : (0 < l0.length) = True := eq_true (by omega)
 (try rw [show ((0 : Int)).toNat = 0 from rfl] at hx989_0)
 (try rw [Addr.add_zero'] at hx989_0)
 replace p989 := eq_true p989
 replace q989 := eq_true q989
 go_enter Try.func95, Try.ntmps95
 go_wp2
 go_ret
 exact ⟨by first | rfl | (simp; done) | (simp [*]; done), Qa10⟩
def ratio_natural.f (l0 : List Int) : Option (Bool) := if (l0.length : Int) ≤ 16 then (if (l0.length : Int) = 0 then (some true) else (if 0 ≤ (wrap64 ((l0.length : Int) - 1)) then (if (wrap64 ((l0.length : Int) - 1)) < (l0.length : Int) then (some ((rd l0 (wrap64 ((l0.length : Int) - 1))) != 0)) else (none)) else (none))) else (some false)
theorem ratio_natural.calls (A0 : Option Addr) (c0 : Nat) (l0 : List Int) (r : Bool) (w : World) (hr0 : Kd.C (Kd.int .u32) w A0 l0.length l0) (hc0 : l0.length ≤ c0) (h : ratio_natural.f l0 = some r) :
  Calls Try.prog 96 #[.slice A0 l0.length c0] w fun e w' => e = .returned (.bool r) ∧ Drawn0 w w' := by
 have HR0 := Yt.mk hr0
 have HC0 := Yt.mk hc0
 clear hr0 hc0
 unfold ratio_natural.f at h
 have H := h
 clear h
 by_cases c2 : (l0.length : Int) ≤ 16
 rotate_left
 ·rw [if_neg c2] at H
  have c2b0 : decide ((l0.length : Int) ≤ 16) = false := decide_eq_false c2
  have c2b1 : decide (l0.length ≤ 16) = false := decide_eq_false (by omega)
  clear c2
  obtain rfl := Option.some.inj H
  go_enter Try.func96, Try.ntmps96
  go_wp2
  go_ret
  exact ⟨by first | rfl | (simp; done) | (simp [*]; done), Qa10⟩
 rw [if_pos c2] at H
 have c2b0 : decide ((l0.length : Int) ≤ 16) = true := decide_eq_true c2
 have c2b1 : decide (l0.length ≤ 16) = true := decide_eq_true (by omega)
 clear c2
 by_cases c3 : (l0.length : Int) = 0
 ·rw [if_pos c3] at H
  have c3b0 : ((l0.length : Int) == 0) = true := beq_iff_eq.mpr c3
  have c3b1 : ((l0.length : Int) != 0) = false := bne_eq_false_iff_eq.mpr c3
  clear c3
  obtain rfl := Option.some.inj H
  go_enter Try.func96, Try.ntmps96
  go_wp2
  go_ret
  exact ⟨by first | rfl | (simp; done) | (simp [*]; done), Qa10⟩
 rw [if_neg c3] at H
 have c3b0 : ((l0.length : Int) == 0) = false := beq_eq_false_iff_ne.mpr c3
 have c3b1 : ((l0.length : Int) != 0) = true := bne_iff_ne.mpr c3
 have c3b2 : ¬ (l0 = []) := fun h_ => c3 (by rw [h_]; rfl)
 obtain ⟨ji4, hji4⟩ : ∃ j_ : Int, (wrap64 ((l0.length : Int) - 1)) = j_ := ⟨_, rfl⟩
 replace H : (if 0 ≤ (ji4) then (if (ji4) < (l0.length : Int) then (some ((rd l0 (ji4)) != 0)) else (none)) else (none)) = some r := by first | (rw [hji4] at H; exact H) | (simp only [hji4] at H ⊢; exact H)
 have hji4w : (IntKind.i64.wrap ((l0.length : Int) - 1)) = ji4 := (Yi _).trans hji4
 by_cases c5 : 0 ≤ (ji4)
 rotate_left
 ·rw [if_neg c5] at H
  exact absurd H (by simp)
 rw [if_pos c5] at H
 have c5b0 : decide (0 ≤ (ji4)) = true := decide_eq_true c5
 clear c5
 by_cases c6 : (ji4) < (l0.length : Int)
 rotate_left
 ·rw [if_neg c6] at H
  exact absurd H (by simp)
 rw [if_pos c6] at H
 have c6b0 : decide ((ji4) < (l0.length : Int)) = true := decide_eq_true c6
 clear c6
 obtain rfl := Option.some.inj H
 have p1016 : 0 ≤ ((ji4) : Int) := Qd
 have q1016 : (ji4) < (l0.length : Int) := Qd
 obtain ⟨ad1016, e1016, hx1016_0⟩ := Kd.at_int HR0.out (ji4) p1016 q1016
 cases e1016
 replace p1016 := eq_true p1016
 replace q1016 := eq_true q1016
 go_enter Try.func96, Try.ntmps96
 go_wp2
 go_ret
 exact ⟨by first | rfl | (simp; done) | (simp only [← hji4] <;> (first | rfl | simp)) | (simp [*]; done), Qa10⟩
def slices_Equal_uint32_uint32.l0 : Nat → List Int → List Int → Int → Int → Option (Bool)
 | 0, _, _, _, _ => none
 | k + 1, x0, x1, x12, x13 => if x13 < x12 then (if 0 ≤ x13 then (if x13 < (x0.length : Int) then (if x13 < (x1.length : Int) then (if (rd x0 x13) = (rd x1 x13) then (slices_Equal_uint32_uint32.l0 k x0 x1 x12 (wrap64 (x13 + 1))) else (some false)) else (none)) else (none)) else (none)) else (some true)
def slices_Equal_uint32_uint32.f (k : Nat) (l0 : List Int) (l1 : List Int) : Option (Bool) := if (l0.length : Int) = (l1.length : Int) then (slices_Equal_uint32_uint32.l0 k l0 l1 (l0.length : Int) 0) else (some false)
theorem slices_Equal_uint32_uint32.mono_l : ∀ k, (∀ y0 y1 y2 y3, LeO (slices_Equal_uint32_uint32.l0 k y0 y1 y2 y3) (slices_Equal_uint32_uint32.l0 (k + 1) y0 y1 y2 y3))
 | 0 => fun _ _ _ _ r h => by simp [slices_Equal_uint32_uint32.l0] at h
 | k + 1 => by
  have ih0 := slices_Equal_uint32_uint32.mono_l k
  ·intro y0 y1 y2 y3
   unfold slices_Equal_uint32_uint32.l0
   exact Qa6
theorem slices_Equal_uint32_uint32.mono : ∀ a0 a1 k, LeO (slices_Equal_uint32_uint32.f k a0 a1) (slices_Equal_uint32_uint32.f (k + 1) a0 a1) := by
 intro a0 a1 k
 have ih0 := slices_Equal_uint32_uint32.mono_l k
 unfold slices_Equal_uint32_uint32.f
 exact Qa6
theorem slices_Equal_uint32_uint32.calls (k : Nat) (A0 : Option Addr) (c0 : Nat) (l0 : List Int) (A1 : Option Addr) (c1 : Nat) (l1 : List Int) (r : Bool) (w : World) (hr0 : Kd.C (Kd.int .u32) w A0 l0.length l0) (hc0 : l0.length ≤ c0) (hr1 : Kd.C (Kd.int .u32) w A1 l1.length l1) (hc1 : l1.length ≤ c1) (h : slices_Equal_uint32_uint32.f k l0 l1 = some r) :
  Calls Try.prog 98 #[.slice A0 l0.length c0, .slice A1 l1.length c1] w fun e w' => e = .returned (.bool r) ∧ Drawn0 w w' := by
 have HR0 := Yt.mk hr0
 have HC0 := Yt.mk hc0
 clear hr0 hc0
 have HR1 := Yt.mk hr1
 have HC1 := Yt.mk hc1
 clear hr1 hc1
 unfold slices_Equal_uint32_uint32.f at h
 have H := h
 clear h
 by_cases c3 : (l0.length : Int) = (l1.length : Int)
 rotate_left
 ·rw [if_neg c3] at H
  have c3b0 : ((l0.length : Int) == (l1.length : Int)) = false := beq_eq_false_iff_ne.mpr c3
  have c3b1 : ((l0.length : Int) != (l1.length : Int)) = true := bne_iff_ne.mpr c3
  have c3b2 : (l0.length == l1.length) = false := by first | simpa using c3 | (simp at c3 ⊢; omega)
  obtain rfl := Option.some.inj H
  go_enter Try.func98, Try.ntmps98
  go_wp2
  repeat (go_quiet (fail); try go_wp2)
  go_ret
  exact ⟨by first | rfl | (simp; done) | (simp [*]; done), Qa10⟩
 rw [if_pos c3] at H
 have c3b0 : ((l0.length : Int) == (l1.length : Int)) = true := beq_iff_eq.mpr c3
 have c3b1 : ((l0.length : Int) != (l1.length : Int)) = false := bne_eq_false_iff_eq.mpr c3
 have c3b2 : (l0.length == l1.length) = true := by first | simpa using c3 | (simp at c3 ⊢; omega)
 clear c3
 have H' := Yt.mk H
 clear H
 go_enter Try.func98, Try.ntmps98
 go_wp2
 repeat (go_quiet (fail); try go_wp2)
 go_loopg [13] k (fun kq v13 w' => ∃ (x13_1 : Int), v13 = .int .i64 x13_1 ∧ Yt (slices_Equal_uint32_uint32.l0 kq l0 l1 (l0.length : Int) x13_1 = some r) ∧ Yt (kq ≤ k) ∧ Drawn0 w w')
 case atStart => exact ⟨(0), Qa5, H', ⟨Nat.le_refl _⟩, Qa10⟩
 case round =>
  clear H'
  try clear c1; try clear p2; try clear c3; try clear c3b0; try clear c3b1; try clear c3b2
  obtain ⟨x13_1, rfl, HA, HK1, ⟨m1, rfl⟩⟩ := hrel
  cases gk with
  | zero => exact absurd HA.out (by simp [slices_Equal_uint32_uint32.l0])
  | succ k1 =>
   have H := HA.out
   clear HA
   simp only [slices_Equal_uint32_uint32.l0] at H
   by_cases c4 : x13_1 < (l0.length : Int)
   rotate_left
   ·rw [if_neg c4] at H
    have c4b0 : decide (x13_1 < (l0.length : Int)) = false := decide_eq_false c4
    clear c4
    obtain rfl := Option.some.inj H
    go_wp2
    repeat (go_quiet (fail); try go_wp2)
    go_ret
    exact ⟨by first | rfl | (simp; done) | (simp [*]; done), Qa10⟩
   rw [if_pos c4] at H
   have c4b0 : decide (x13_1 < (l0.length : Int)) = true := decide_eq_true c4
   clear c4
   by_cases c5 : 0 ≤ x13_1
   rotate_left
   ·rw [if_neg c5] at H
    exact absurd H (by simp)
   rw [if_pos c5] at H
   have c5b0 : decide (0 ≤ x13_1) = true := decide_eq_true c5
   clear c5
   by_cases c6 : x13_1 < (l0.length : Int)
   rotate_left
   ·rw [if_neg c6] at H
    exact absurd H (by simp)
   rw [if_pos c6] at H
   have c6b0 : decide (x13_1 < (l0.length : Int)) = true := decide_eq_true c6
   clear c6
   by_cases c7 : x13_1 < (l1.length : Int)
   rotate_left
   ·rw [if_neg c7] at H
    exact absurd H (by simp)
   rw [if_pos c7] at H
   have c7b0 : decide (x13_1 < (l1.length : Int)) = true := decide_eq_true c7
   clear c7
   by_cases c8 : (rd l0 x13_1) = (rd l1 x13_1)
   rotate_left
   ·rw [if_neg c8] at H
    have c8b0 : ((rd l0 x13_1) == (rd l1 x13_1)) = false := beq_eq_false_iff_ne.mpr c8
    have c8b1 : ((rd l0 x13_1) != (rd l1 x13_1)) = true := bne_iff_ne.mpr c8
    obtain rfl := Option.some.inj H
    have p1024 : 0 ≤ (x13_1 : Int) := Qd
    have q1024 : x13_1 < (l0.length : Int) := Qd
    obtain ⟨ad1024, e1024, hx1024_0⟩ := Kd.at_int HR0.out x13_1 p1024 q1024
    cases e1024
    replace p1024 := eq_true p1024
    replace q1024 := eq_true q1024
    have p1025 : 0 ≤ (x13_1 : Int) := Qd
    have q1025 : x13_1 < (l1.length : Int) := Qd
    obtain ⟨ad1025, e1025, hx1025_0⟩ := Kd.at_int HR1.out x13_1 p1025 q1025
    cases e1025
    replace p1025 := eq_true p1025
    replace q1025 := eq_true q1025
    go_wp2
    repeat (go_quiet (fail); try go_wp2)
    go_ret
    exact ⟨by first | rfl | (simp; done) | (simp [*]; done), Qa10⟩
   rw [if_pos c8] at H
   have c8b0 : ((rd l0 x13_1) == (rd l1 x13_1)) = true := beq_iff_eq.mpr c8
   have c8b1 : ((rd l0 x13_1) != (rd l1 x13_1)) = false := bne_eq_false_iff_eq.mpr c8
   clear c8
   have H' := Yt.mk H
   clear H
   have p1024 : 0 ≤ (x13_1 : Int) := Qd
   have q1024 : x13_1 < (l0.length : Int) := Qd
   obtain ⟨ad1024, e1024, hx1024_0⟩ := Kd.at_int HR0.out x13_1 p1024 q1024
   cases e1024
   replace p1024 := eq_true p1024
   replace q1024 := eq_true q1024
   have p1025 : 0 ≤ (x13_1 : Int) := Qd
   have q1025 : x13_1 < (l1.length : Int) := Qd
   obtain ⟨ad1025, e1025, hx1025_0⟩ := Kd.at_int HR1.out x13_1 p1025 q1025
   cases e1025
   replace p1025 := eq_true p1025
   replace q1025 := eq_true q1025
   go_wp2
   repeat (go_quiet (fail); try go_wp2)
   go_roundg k1
   case measure => have := HK1.out; omega
   case rel => exact ⟨(wrap64 (x13_1 + 1)), Qa5, H', ⟨by have := HK1.out; omega⟩, Qa10⟩
def ratio_Same.f (k : Nat) (a0_0 : Bool) (l0_1 : List Int) (l0_2 : List Int) (a1_0 : Bool) (l1_1 : List Int) (l1_2 : List Int) : Option (Bool) := if (a0_0 == a1_0) = true then ((slices_Equal_uint32_uint32.f k l0_1 l1_1).bind fun t1028 => (if t1028 = true then ((slices_Equal_uint32_uint32.f k l0_2 l1_2).bind fun t1029 => (some t1029)) else (some false))) else (some false)
theorem ratio_Same.mono : ∀ a0 a1 a2 a3 a4 a5 k, LeO (ratio_Same.f k a0 a1 a2 a3 a4 a5) (ratio_Same.f (k + 1) a0 a1 a2 a3 a4 a5) := by
 intro a0 a1 a2 a3 a4 a5 k
 unfold ratio_Same.f
 have m0 := @slices_Equal_uint32_uint32.mono
 exact Qa6
theorem ratio_Same.calls (k : Nat) (a0_0 : Bool) (A0_1 : Option Addr) (c0_1 : Nat) (l0_1 : List Int) (A0_2 : Option Addr) (c0_2 : Nat) (l0_2 : List Int) (a1_0 : Bool) (A1_1 : Option Addr) (c1_1 : Nat) (l1_1 : List Int) (A1_2 : Option Addr) (c1_2 : Nat) (l1_2 : List Int) (r : Bool) (w : World) (hr0_1 : Kd.C (Kd.int .u32) w A0_1 l0_1.length l0_1) (hc0_1 : l0_1.length ≤ c0_1) (hr0_2 : Kd.C (Kd.int .u32) w A0_2 l0_2.length l0_2) (hc0_2 : l0_2.length ≤ c0_2) (hr1_1 : Kd.C (Kd.int .u32) w A1_1 l1_1.length l1_1) (hc1_1 : l1_1.length ≤ c1_1) (hr1_2 : Kd.C (Kd.int .u32) w A1_2 l1_2.length l1_2) (hc1_2 : l1_2.length ≤ c1_2) (h : ratio_Same.f k a0_0 l0_1 l0_2 a1_0 l1_1 l1_2 = some r) :
  Calls Try.prog 53 #[.agg #[.bool a0_0, .slice A0_1 l0_1.length c0_1, .slice A0_2 l0_2.length c0_2], .agg #[.bool a1_0, .slice A1_1 l1_1.length c1_1, .slice A1_2 l1_2.length c1_2]] w fun e w' => e = .returned (.bool r) ∧ Below w.heap.size w w' := by
 have hu50 := Try.underlying50
 have HR0_1 := Yt.mk hr0_1
 have HC0_1 := Yt.mk hc0_1
 clear hr0_1 hc0_1
 have HR0_2 := Yt.mk hr0_2
 have HC0_2 := Yt.mk hc0_2
 clear hr0_2 hc0_2
 have HR1_1 := Yt.mk hr1_1
 have HC1_1 := Yt.mk hc1_1
 clear hr1_1 hc1_1
 have HR1_2 := Yt.mk hr1_2
 have HC1_2 := Yt.mk hc1_2
 clear hr1_2 hc1_2
 have HB := Yt.mk (Below.refl w.heap.size w)
 unfold ratio_Same.f at h
 have H := h
 clear h
 by_cases c3 : (a0_0 == a1_0) = true
 rotate_left
 ·rw [if_neg c3] at H
  have c3b0 : (a0_0 == a1_0) = false := by simpa using c3
  (try (have c3b1 : decide (a0_0 = a1_0) = false := by simpa using c3))
  (try (have c3b2 : (a0_0 == a1_0) = false := by simpa using c3))
  (try (have c3b3 : ¬ (a0_0 = a1_0) := by simpa using c3))
  clear c3
  obtain rfl := Option.some.inj H
  go_enter Try.func53, Try.ntmps53
  go_wp2_with (first | ((with_reducible refine Yk (N := 2) rfl ?_); refine Yo ?hg (N := 2) ?hd (cs := #[.bool a0_0, .slice A0_1 l0_1.length c0_1, .slice A0_2 l0_2.length c0_2]) (t := 50) ?hr ?_; (case hd => rfl); (case hg => rfl); (case hr => exact Qa9); intro gb1026 hg w17 hbox hb; have BK1026 := Yt.mk (hbox); have GW1026 := Yt.mk ((by rw [hg]; exact (Zk (Qa0)) : w.heap.size ≤ gb1026)); have GE1026 := Yt.mk ((by rw [hg]; exact (Zk (Qa0)) : w.heap.size ≤ gb1026)); replace HB := Yt.mk (Zm (Qa0) hb); clear hb hbox hg) | ((with_reducible refine Yk (N := 3) rfl ?_); refine Yo ?hg (N := 3) ?hd (cs := #[.bool a1_0, .slice A1_1 l1_1.length c1_1, .slice A1_2 l1_2.length c1_2]) (t := 50) ?hr ?_; (case hd => rfl); (case hg => rfl); (case hr => exact Qa9); intro gb1027 hg w18 hbox hb; have BK1027 := Yt.mk (hbox); have GW1027 := Yt.mk ((by rw [hg]; exact (Zk (Qa0)) : w.heap.size ≤ gb1027)); have GE1027 := Yt.mk ((by rw [hg]; exact (Zk (Qa0)) : w.heap.size ≤ gb1027)); replace HB := Yt.mk (Zm (Qa0) hb); have NB1026_1027 := Yt.mk ((by rw [hg]; exact Nat.ne_of_lt (blk_lt (g := gb1026) (o := .cells #[.bool a0_0, .slice A0_1 l0_1.length c0_1, .slice A0_2 l0_2.length c0_2] 50 (0, 0)) (Qr12 BK1026.out)) : gb1026 ≠ gb1027)); have NB1027_1026 := Yt.mk ((by rw [hg]; exact Nat.ne_of_gt (blk_lt (g := gb1026) (o := .cells #[.bool a0_0, .slice A0_1 l0_1.length c0_1, .slice A0_2 l0_2.length c0_2] 50 (0, 0)) (Qr12 BK1026.out)) : gb1027 ≠ gb1026)); replace BK1026 := Yt.mk (Zq (g := gb1026) (o := .cells #[.bool a0_0, .slice A0_1 l0_1.length c0_1, .slice A0_2 l0_2.length c0_2] 50 (0, 0)) (Qr12 BK1026.out) hb); clear hb hbox hg; have hnb19 := NB1026_1027.out; have hnc19 := NB1027_1026.out; have hcz20_0 : w18.cell? ⟨gb1026, 0, none⟩ = some (.bool a0_0) := (Zl BK1026.out 0).trans rfl; have hcz20_1 : w18.cell? ⟨gb1026, 1, none⟩ = some (.slice A0_1 l0_1.length c0_1) := (Zl BK1026.out 1).trans rfl; have hcz20_2 : w18.cell? ⟨gb1026, 2, none⟩ = some (.slice A0_2 l0_2.length c0_2) := (Zl BK1026.out 2).trans rfl; have hfz20_0 := Zn BK1026.out 0; have hfz20_1 := Zn BK1026.out 1; have hfz20_2 := Zn BK1026.out 2; have hcz21_0 : w18.cell? ⟨gb1027, 0, none⟩ = some (.bool a1_0) := (Zl BK1027.out 0).trans rfl; have hcz21_1 : w18.cell? ⟨gb1027, 1, none⟩ = some (.slice A1_1 l1_1.length c1_1) := (Zl BK1027.out 1).trans rfl; have hcz21_2 : w18.cell? ⟨gb1027, 2, none⟩ = some (.slice A1_2 l1_2.length c1_2) := (Zl BK1027.out 2).trans rfl; have hfz21_0 := Zn BK1027.out 0; have hfz21_1 := Zn BK1027.out 1; have hfz21_2 := Zn BK1027.out 2))
  go_ret
  exact ⟨Qa4, Qa0⟩
 rw [if_pos c3] at H
 have c3b0 : (a0_0 == a1_0) = true := c3
 (try (have c3b1 : decide (a0_0 = a1_0) = true := by simpa using c3))
 (try (have c3b2 : (a0_0 == a1_0) = true := by simpa using c3))
 clear c3
 replace H := Option.bind_eq_some_iff.mp H
 obtain ⟨t1028, A40, H⟩ := H
 try dsimp only at H
 have A4 := Yt.mk A40
 clear A40
 by_cases c5 : t1028 = true
 rotate_left
 ·replace c5 := Bool.eq_false_iff.mpr c5
  subst c5
  rw [if_neg (show ¬ (false = true) by decide)] at H
  obtain rfl := Option.some.inj H
  go_enter Try.func53, Try.ntmps53
  go_wp2_with (first | ((with_reducible refine Yk (N := 2) rfl ?_); refine Yo ?hg (N := 2) ?hd (cs := #[.bool a0_0, .slice A0_1 l0_1.length c0_1, .slice A0_2 l0_2.length c0_2]) (t := 50) ?hr ?_; (case hd => rfl); (case hg => rfl); (case hr => exact Qa9); intro gb1026 hg w12 hbox hb; have BK1026 := Yt.mk (hbox); have GW1026 := Yt.mk ((by rw [hg]; exact (Zk (Qa0)) : w.heap.size ≤ gb1026)); have GE1026 := Yt.mk ((by rw [hg]; exact (Zk (Qa0)) : w.heap.size ≤ gb1026)); replace HB := Yt.mk (Zm (Qa0) hb); clear hb hbox hg) | ((with_reducible refine Yk (N := 3) rfl ?_); refine Yo ?hg (N := 3) ?hd (cs := #[.bool a1_0, .slice A1_1 l1_1.length c1_1, .slice A1_2 l1_2.length c1_2]) (t := 50) ?hr ?_; (case hd => rfl); (case hg => rfl); (case hr => exact Qa9); intro gb1027 hg w13 hbox hb; have BK1027 := Yt.mk (hbox); have GW1027 := Yt.mk ((by rw [hg]; exact (Zk (Qa0)) : w.heap.size ≤ gb1027)); have GE1027 := Yt.mk ((by rw [hg]; exact (Zk (Qa0)) : w.heap.size ≤ gb1027)); replace HB := Yt.mk (Zm (Qa0) hb); have NB1026_1027 := Yt.mk ((by rw [hg]; exact Nat.ne_of_lt (blk_lt (g := gb1026) (o := .cells #[.bool a0_0, .slice A0_1 l0_1.length c0_1, .slice A0_2 l0_2.length c0_2] 50 (0, 0)) (Qr12 BK1026.out)) : gb1026 ≠ gb1027)); have NB1027_1026 := Yt.mk ((by rw [hg]; exact Nat.ne_of_gt (blk_lt (g := gb1026) (o := .cells #[.bool a0_0, .slice A0_1 l0_1.length c0_1, .slice A0_2 l0_2.length c0_2] 50 (0, 0)) (Qr12 BK1026.out)) : gb1027 ≠ gb1026)); replace BK1026 := Yt.mk (Zq (g := gb1026) (o := .cells #[.bool a0_0, .slice A0_1 l0_1.length c0_1, .slice A0_2 l0_2.length c0_2] 50 (0, 0)) (Qr12 BK1026.out) hb); clear hb hbox hg; have hnb14 := NB1026_1027.out; have hnc14 := NB1027_1026.out; have hcz15_0 : w13.cell? ⟨gb1026, 0, none⟩ = some (.bool a0_0) := (Zl BK1026.out 0).trans rfl; have hcz15_1 : w13.cell? ⟨gb1026, 1, none⟩ = some (.slice A0_1 l0_1.length c0_1) := (Zl BK1026.out 1).trans rfl; have hcz15_2 : w13.cell? ⟨gb1026, 2, none⟩ = some (.slice A0_2 l0_2.length c0_2) := (Zl BK1026.out 2).trans rfl; have hfz15_0 := Zn BK1026.out 0; have hfz15_1 := Zn BK1026.out 1; have hfz15_2 := Zn BK1026.out 2; have hcz16_0 : w13.cell? ⟨gb1027, 0, none⟩ = some (.bool a1_0) := (Zl BK1027.out 0).trans rfl; have hcz16_1 : w13.cell? ⟨gb1027, 1, none⟩ = some (.slice A1_1 l1_1.length c1_1) := (Zl BK1027.out 1).trans rfl; have hcz16_2 : w13.cell? ⟨gb1027, 2, none⟩ = some (.slice A1_2 l1_2.length c1_2) := (Zl BK1027.out 2).trans rfl; have hfz16_0 := Zn BK1027.out 0; have hfz16_1 := Zn BK1027.out 1; have hfz16_2 := Zn BK1027.out 2) | (go_at_call 98; (with_reducible refine (slices_Equal_uint32_uint32.calls k _ _ l0_1 _ _ l1_1 false _ ?side1 ?side2 ?side3 ?side4 A4.out).mono ?_); (case side1 => exact Qe11 (Kd.Ys HR0_1.out HB.out)); (case side2 => exact HC0_1.out); (case side3 => exact Qe11 (Kd.Ys HR1_1.out HB.out)); (case side4 => exact HC1_1.out); rintro e w' ⟨rfl, ⟨nd, rfl⟩⟩))
  go_ret
  exact ⟨Qa4, Qa0⟩
 subst c5
 rw [if_pos rfl] at H
 replace H := Option.bind_eq_some_iff.mp H
 obtain ⟨t1029, A60, H⟩ := H
 replace H : (some t1029) = some r := H
 have A6 := Yt.mk A60
 clear A60
 obtain rfl := Option.some.inj H
 go_enter Try.func53, Try.ntmps53
 go_wp2_with (first | ((with_reducible refine Yk (N := 2) rfl ?_); refine Yo ?hg (N := 2) ?hd (cs := #[.bool a0_0, .slice A0_1 l0_1.length c0_1, .slice A0_2 l0_2.length c0_2]) (t := 50) ?hr ?_; (case hd => rfl); (case hg => rfl); (case hr => exact Qa9); intro gb1026 hg w7 hbox hb; have BK1026 := Yt.mk (hbox); have GW1026 := Yt.mk ((by rw [hg]; exact (Zk (Qa0)) : w.heap.size ≤ gb1026)); have GE1026 := Yt.mk ((by rw [hg]; exact (Zk (Qa0)) : w.heap.size ≤ gb1026)); replace HB := Yt.mk (Zm (Qa0) hb); clear hb hbox hg) | ((with_reducible refine Yk (N := 3) rfl ?_); refine Yo ?hg (N := 3) ?hd (cs := #[.bool a1_0, .slice A1_1 l1_1.length c1_1, .slice A1_2 l1_2.length c1_2]) (t := 50) ?hr ?_; (case hd => rfl); (case hg => rfl); (case hr => exact Qa9); intro gb1027 hg w8 hbox hb; have BK1027 := Yt.mk (hbox); have GW1027 := Yt.mk ((by rw [hg]; exact (Zk (Qa0)) : w.heap.size ≤ gb1027)); have GE1027 := Yt.mk ((by rw [hg]; exact (Zk (Qa0)) : w.heap.size ≤ gb1027)); replace HB := Yt.mk (Zm (Qa0) hb); have NB1026_1027 := Yt.mk ((by rw [hg]; exact Nat.ne_of_lt (blk_lt (g := gb1026) (o := .cells #[.bool a0_0, .slice A0_1 l0_1.length c0_1, .slice A0_2 l0_2.length c0_2] 50 (0, 0)) (Qr12 BK1026.out)) : gb1026 ≠ gb1027)); have NB1027_1026 := Yt.mk ((by rw [hg]; exact Nat.ne_of_gt (blk_lt (g := gb1026) (o := .cells #[.bool a0_0, .slice A0_1 l0_1.length c0_1, .slice A0_2 l0_2.length c0_2] 50 (0, 0)) (Qr12 BK1026.out)) : gb1027 ≠ gb1026)); replace BK1026 := Yt.mk (Zq (g := gb1026) (o := .cells #[.bool a0_0, .slice A0_1 l0_1.length c0_1, .slice A0_2 l0_2.length c0_2] 50 (0, 0)) (Qr12 BK1026.out) hb); clear hb hbox hg; have hnb9 := NB1026_1027.out; have hnc9 := NB1027_1026.out; have hcz10_0 : w8.cell? ⟨gb1026, 0, none⟩ = some (.bool a0_0) := (Zl BK1026.out 0).trans rfl; have hcz10_1 : w8.cell? ⟨gb1026, 1, none⟩ = some (.slice A0_1 l0_1.length c0_1) := (Zl BK1026.out 1).trans rfl; have hcz10_2 : w8.cell? ⟨gb1026, 2, none⟩ = some (.slice A0_2 l0_2.length c0_2) := (Zl BK1026.out 2).trans rfl; have hfz10_0 := Zn BK1026.out 0; have hfz10_1 := Zn BK1026.out 1; have hfz10_2 := Zn BK1026.out 2; have hcz11_0 : w8.cell? ⟨gb1027, 0, none⟩ = some (.bool a1_0) := (Zl BK1027.out 0).trans rfl; have hcz11_1 : w8.cell? ⟨gb1027, 1, none⟩ = some (.slice A1_1 l1_1.length c1_1) := (Zl BK1027.out 1).trans rfl; have hcz11_2 : w8.cell? ⟨gb1027, 2, none⟩ = some (.slice A1_2 l1_2.length c1_2) := (Zl BK1027.out 2).trans rfl; have hfz11_0 := Zn BK1027.out 0; have hfz11_1 := Zn BK1027.out 1; have hfz11_2 := Zn BK1027.out 2) | (go_at_call 98; (with_reducible refine (slices_Equal_uint32_uint32.calls k _ _ l0_1 _ _ l1_1 true _ ?side1 ?side2 ?side3 ?side4 A4.out).mono ?_); (case side1 => exact Qe11 (Kd.Ys HR0_1.out HB.out)); (case side2 => exact HC0_1.out); (case side3 => exact Qe11 (Kd.Ys HR1_1.out HB.out)); (case side4 => exact HC1_1.out); rintro e w' ⟨rfl, ⟨nd, rfl⟩⟩; clear A4) | (go_at_call 98; (with_reducible refine (slices_Equal_uint32_uint32.calls k _ _ l0_2 _ _ l1_2 t1029 _ ?side1 ?side2 ?side3 ?side4 A6.out).mono ?_); (case side1 => repeat (first | exact (Kd.Ys HR0_2.out (Qa0)) | (with_reducible refine Kd.Zu ?_ _) | (with_reducible refine Kd.Zt ?_ _) | (with_reducible refine Kd.Yc ?_))); (case side2 => exact HC0_2.out); (case side3 => repeat (first | exact (Kd.Ys HR1_2.out (Qa0)) | (with_reducible refine Kd.Zu ?_ _) | (with_reducible refine Kd.Zt ?_ _) | (with_reducible refine Kd.Yc ?_))); (case side4 => exact HC1_2.out); rintro e w' ⟨rfl, ⟨nd, rfl⟩⟩; clear A6))
 go_ret
 exact ⟨Qa4, Qa0⟩
def ratio_Of.f (k : Nat) (a0 : Int) : Option (Bool × List Int × List Int) := if a0 < 0 then ((nats_Trim.f k (([(IntKind.u64.wrap (-(IntKind.u64.wrap (a0)))) % 4294967296, ((IntKind.u64.wrap (-(IntKind.u64.wrap (a0)))) / 4294967296) % 4294967296] : List Int))).bind fun t1034 => (some (true, t1034, (([1] : List Int))))) else ((nats_Trim.f k (([(IntKind.u64.wrap (a0)) % 4294967296, ((IntKind.u64.wrap (a0)) / 4294967296) % 4294967296] : List Int))).bind fun t1043 => (some (false, t1043, (([1] : List Int)))))
theorem ratio_Of.mono : ∀ a0 k, LeO (ratio_Of.f k a0) (ratio_Of.f (k + 1) a0) := by
 intro a0 k
 unfold ratio_Of.f
 have m0 := @nats_Trim.mono
 exact Qa6
theorem ratio_Of.calls (k : Nat) (a0 : Int) (r1 : Bool) (r2 : List Int) (r3 : List Int) (w : World) (h : ratio_Of.f k a0 = some (r1, r2, r3)) :
  Calls Try.prog 55 #[.int .i64 a0] w fun e w' => ∃ v1_ v2_ : Value, e = .returned (.agg #[.bool r1, v1_, v2_]) ∧ Kd.R (Kd.int .u32) 47 w' w.heap.size (fun k_ => some k_ ≠ (v2_ : Value).ownBlock) v1_ r2 ∧ Kd.R (Kd.int .u32) 47 w' w.heap.size (fun k_ => some k_ ≠ (v1_ : Value).ownBlock) v2_ r3 ∧ Below w.heap.size w w' := by
 have hu50 := Try.underlying50
 have HB := Yt.mk (Below.refl w.heap.size w)
 unfold ratio_Of.f at h
 have H := h
 clear h
 by_cases c2 : a0 < 0
 ·rw [if_pos c2] at H
  have c2b0 : decide (a0 < 0) = true := decide_eq_true c2
  clear c2
  obtain ⟨y1031, hy1031⟩ : ∃ y_ : List Int, y_ = (([(IntKind.u64.wrap (-(IntKind.u64.wrap (a0)))) % 4294967296, ((IntKind.u64.wrap (-(IntKind.u64.wrap (a0)))) / 4294967296) % 4294967296] : List Int)) := ⟨_, rfl⟩
  replace H : ((nats_Trim.f k y1031).bind fun t1034 => (some (true, t1034, (([1] : List Int))))) = some (r1, r2, r3) := Qh hy1031 H
  have Ny1031 := Yt.mk hy1031
  clear hy1031
  replace H := Option.bind_eq_some_iff.mp H
  obtain ⟨t1034, A30, H⟩ := H
  try dsimp only at H
  have A3 := Yt.mk A30
  clear A30
  obtain ⟨y1037, hy1037⟩ : ∃ y_ : List Int, y_ = (([1] : List Int)) := ⟨_, rfl⟩
  replace H : (some (true, t1034, y1037)) = some (r1, r2, r3) := Qh hy1037 H
  have Ny1037 := Yt.mk hy1037
  clear hy1037
  simp only [Option.some.injEq, Prod.mk.injEq] at H
  obtain ⟨rfl, rfl, rfl⟩ := H
  go_enter Try.func55, Try.ntmps55
  go_wp2_with (first | ((with_reducible refine Yk (N := 2) rfl ?_); refine Yo ?hg (N := 2) ?hd (cs := #[.bool false, .slice none 0 0, .slice none 0 0]) (t := 50) ?hr ?_; (case hd => rfl); (case hg => rfl); (case hr => exact Qa9); intro gb1030 hg w4 hbox hb; have BK1030 := Yt.mk (hbox); have GW1030 := Yt.mk ((by rw [hg]; exact (Zk (Qa0)) : w.heap.size ≤ gb1030)); have GE1030 := Yt.mk ((by rw [hg]; exact (Zk (Qa0)) : w.heap.size ≤ gb1030)); replace HB := Yt.mk (Zm (Qa0) hb); clear hb hbox hg) | ((with_reducible refine Yk (N := 17) rfl ?_); refine Kd.R_lit (Kd.int .u32) _ 47 ?hg (N := 17) ?hd (xs := ([(IntKind.u64.wrap (-(IntKind.u64.wrap (a0)))) % 4294967296, ((IntKind.u64.wrap (-(IntKind.u64.wrap (a0)))) / 4294967296) % 4294967296] : List Int)) (inner := [.int .u32 ((IntKind.u64.wrap (-(IntKind.u64.wrap (a0)))) % 4294967296), .int .u32 (((IntKind.u64.wrap (-(IntKind.u64.wrap (a0)))) / 4294967296) % 4294967296)]) (ok := fun _ => True) (okp := fun _ => True) ?hr ?hp (fun _ hk => hk) trivial (Below.refl _ _) (Nat.le_refl _) (by simp) ?_; (case hd => rfl); (case hg => rfl); (case hr => exact Qa9); (case hp => exact (Reps.one (show Kd.M (Kd.int .u32) _ _ _ ((IntKind.u64.wrap (-(IntKind.u64.wrap (a0)))) % 4294967296) [.int .u32 ((IntKind.u64.wrap (-(IntKind.u64.wrap (a0)))) % 4294967296)] from rfl) (Reps.one (show Kd.M (Kd.int .u32) _ _ _ (((IntKind.u64.wrap (-(IntKind.u64.wrap (a0)))) / 4294967296) % 4294967296) [.int .u32 (((IntKind.u64.wrap (-(IntKind.u64.wrap (a0)))) / 4294967296) % 4294967296)] from rfl) (Reps.none _ _)))); intro v1032 w5 ho6 hb hg_ hnew_; clear hg_ hnew_; (first | rw [← Ny1031.out] at ho6 | (simp only [Int.reduceToNat] at ho6; rw [← Ny1031.out] at ho6)); have HO1033 := Yt.mk (Kd.Yb ho6 (Zk (Qa0))); replace BK1030 := Yt.mk (Zq (g := gb1030) (o := .cells #[.bool false, .slice none 0 0, .slice none 0 0] 50 (0, 0)) (Qr12 BK1030.out) hb); replace HB := Yt.mk (Zm (Qa0) hb); clear hb ho6; obtain ⟨Ao7, co7, eo7⟩ := Kd.Zx HO1033.out; subst eo7) | ((with_reducible refine Zr (f := 90) rfl ?_); refine Yg (some 18) rfl rfl Try.func90 Qa8 rfl #[.slice Ao7 y1031.length co7] rfl Qa2 ?_; (with_reducible refine (nats_Trim.calls k _ _ y1031 t1034 _ ?side1 ?side2 A3.out).mono ?_); (case side1 => exact Qe11 (Kd.Zs HO1033.out).2.2); (case side2 => exact (Kd.Zs HO1033.out).2.1); rintro e w8 ⟨v1035, rfl, ho0, hb⟩; refine ⟨_, rfl, ?_⟩; have HO1036 := Yt.mk (Kd.Yb (Kd.Ya ho0 (Kd.R_lt (Qr1 HO1033.out))) (Zk (Qa0))); replace HO1033 := Yt.mk (Kd.Yf (Qr1 HO1033.out) (Kd.Zw ho0) hb); replace BK1030 := Yt.mk (Zq (g := gb1030) (o := .cells #[.bool false, .slice none 0 0, .slice none 0 0] 50 (0, 0)) (Qr12 BK1030.out) hb); replace HB := Yt.mk (Zm (Qa0) hb); (try clear hb); (try clear ho0)) | ((with_reducible refine Yk (N := 19) rfl ?_); refine Kd.R_lit (Kd.int .u32) _ 47 ?hg (N := 19) ?hd (xs := ([1] : List Int)) (inner := [.int .u32 1]) (ok := fun _ => True) (okp := fun _ => True) ?hr ?hp (fun _ hk => hk) trivial (Below.refl _ _) (Nat.le_refl _) (by simp) ?_; (case hd => rfl); (case hg => rfl); (case hr => exact Qa9); (case hp => exact (Reps.one (show Kd.M (Kd.int .u32) _ _ _ 1 [.int .u32 1] from rfl) (Reps.none _ _))); intro v1038 w9 ho10 hb hg_ hnew_; clear hg_ hnew_; (first | rw [← Ny1037.out] at ho10 | (simp only [Int.reduceToNat] at ho10; rw [← Ny1037.out] at ho10)); have HO1039 := Yt.mk (Kd.Yb (Kd.Ya (Kd.Ya ho10 (Kd.R_lt (Qr1 HO1033.out))) (Kd.R_lt (Qr1 HO1036.out))) (Zk (Qa0))); replace HO1033 := Yt.mk (Kd.Yf (Qr1 HO1033.out) (Kd.Zw ho10) hb); replace HO1036 := Yt.mk (Kd.Yf (Qr1 HO1036.out) (Kd.Zw ho10) hb); replace BK1030 := Yt.mk (Zq (g := gb1030) (o := .cells #[.bool false, .slice none 0 0, .slice none 0 0] 50 (0, 0)) (Qr12 BK1030.out) hb); replace HB := Yt.mk (Zm (Qa0) hb); clear hb ho10; obtain ⟨Ao11, co11, eo11⟩ := Kd.Zx HO1039.out; subst eo11; obtain ⟨Ao12, co12, eo12⟩ := Kd.Zx HO1036.out; subst eo12; have hcz13_0 : w9.cell? ⟨gb1030, 0, none⟩ = some (.bool false) := (Zl BK1030.out 0).trans rfl; have hcz13_1 : w9.cell? ⟨gb1030, 1, none⟩ = some (.slice none 0 0) := (Zl BK1030.out 1).trans rfl; have hcz13_2 : w9.cell? ⟨gb1030, 2, none⟩ = some (.slice none 0 0) := (Zl BK1030.out 2).trans rfl; have hfz13_0 := Zn BK1030.out 0; have hfz13_1 := Zn BK1030.out 1; have hfz13_2 := Zn BK1030.out 2))
  refine bodyPost_ret (results_cell_row rfl _ _ gb1030 50 #[.bool true, .slice Ao12 t1034.length co12, .slice Ao11 y1037.length co11] (0, 0) _ rfl (by (with_reducible repeat (first | refine Zg ?_ _ | refine Zi ?_ | refine Zh ?_ _)); refine Ym (cs := #[.bool true, .slice Ao12 t1034.length co12, .slice none 0 0]) ?_ 2 _ rfl; (with_reducible repeat (first | refine Zg ?_ _ | refine Zi ?_ | refine Zh ?_ _)); refine Ym (cs := #[.bool true, .slice none 0 0, .slice none 0 0]) ?_ 1 _ rfl; (with_reducible repeat (first | refine Zg ?_ _ | refine Zi ?_ | refine Zh ?_ _)); refine Ym (cs := #[.bool false, .slice none 0 0, .slice none 0 0]) ?_ 0 _ rfl; (with_reducible repeat (first | refine Zg ?_ _ | refine Zi ?_ | refine Zh ?_ _)); exact BK1030.out) Try.underlying50 rfl Qa8) rfl ?_
  exact ⟨_, _, Qa4, by (with_reducible repeat (first | apply Kd.Zf | apply Kd.Ze | apply Kd.Zj)); exact Kd.Zv (Kd.Yh (p := ⟨gb1030, 2, none⟩) (Kd.Yh (p := ⟨gb1030, 1, none⟩) (Kd.Yh (p := ⟨gb1030, 0, none⟩) (Kd.Yq HO1036.out BK1030.out (by decide)) (fun _ hk => hk.2) (.bool true)) (fun _ hk => hk.2) (.slice Ao12 t1034.length co12)) (fun _ hk => hk.2) (.slice Ao11 y1037.length co11)) (fun _ hk => hk.1.2), by (with_reducible repeat (first | apply Kd.Zf | apply Kd.Ze | apply Kd.Zj)); exact Kd.Zv (Kd.Yh (p := ⟨gb1030, 2, none⟩) (Kd.Yh (p := ⟨gb1030, 1, none⟩) (Kd.Yh (p := ⟨gb1030, 0, none⟩) (Kd.Yq HO1039.out BK1030.out (by decide)) (fun _ hk => hk.2) (.bool true)) (fun _ hk => hk.2) (.slice Ao12 t1034.length co12)) (fun _ hk => hk.2) (.slice Ao11 y1037.length co11)) (fun _ hk => hk.1.2), Qa0⟩
 rw [if_neg c2] at H
 have c2b0 : decide (a0 < 0) = false := decide_eq_false c2
 clear c2
 obtain ⟨y1040, hy1040⟩ : ∃ y_ : List Int, y_ = (([(IntKind.u64.wrap (a0)) % 4294967296, ((IntKind.u64.wrap (a0)) / 4294967296) % 4294967296] : List Int)) := ⟨_, rfl⟩
 replace H : ((nats_Trim.f k y1040).bind fun t1043 => (some (false, t1043, (([1] : List Int))))) = some (r1, r2, r3) := Qh hy1040 H
 have Ny1040 := Yt.mk hy1040
 clear hy1040
 replace H := Option.bind_eq_some_iff.mp H
 obtain ⟨t1043, A140, H⟩ := H
 try dsimp only at H
 have A14 := Yt.mk A140
 clear A140
 obtain ⟨y1046, hy1046⟩ : ∃ y_ : List Int, y_ = (([1] : List Int)) := ⟨_, rfl⟩
 replace H : (some (false, t1043, y1046)) = some (r1, r2, r3) := Qh hy1046 H
 have Ny1046 := Yt.mk hy1046
 clear hy1046
 simp only [Option.some.injEq, Prod.mk.injEq] at H
 obtain ⟨rfl, rfl, rfl⟩ := H
 go_enter Try.func55, Try.ntmps55
 go_wp2_with (first | ((with_reducible refine Yk (N := 2) rfl ?_); refine Yo ?hg (N := 2) ?hd (cs := #[.bool false, .slice none 0 0, .slice none 0 0]) (t := 50) ?hr ?_; (case hd => rfl); (case hg => rfl); (case hr => exact Qa9); intro gb1030 hg w15 hbox hb; have BK1030 := Yt.mk (hbox); have GW1030 := Yt.mk ((by rw [hg]; exact (Zk (Qa0)) : w.heap.size ≤ gb1030)); have GE1030 := Yt.mk ((by rw [hg]; exact (Zk (Qa0)) : w.heap.size ≤ gb1030)); replace HB := Yt.mk (Zm (Qa0) hb); clear hb hbox hg) | ((with_reducible refine Yk (N := 17) rfl ?_); refine Kd.R_lit (Kd.int .u32) _ 47 ?hg (N := 17) ?hd (xs := ([(IntKind.u64.wrap (a0)) % 4294967296, ((IntKind.u64.wrap (a0)) / 4294967296) % 4294967296] : List Int)) (inner := [.int .u32 ((IntKind.u64.wrap (a0)) % 4294967296), .int .u32 (((IntKind.u64.wrap (a0)) / 4294967296) % 4294967296)]) (ok := fun _ => True) (okp := fun _ => True) ?hr ?hp (fun _ hk => hk) trivial (Below.refl _ _) (Nat.le_refl _) (by simp) ?_; (case hd => rfl); (case hg => rfl); (case hr => exact Qa9); (case hp => exact (Reps.one (show Kd.M (Kd.int .u32) _ _ _ ((IntKind.u64.wrap (a0)) % 4294967296) [.int .u32 ((IntKind.u64.wrap (a0)) % 4294967296)] from rfl) (Reps.one (show Kd.M (Kd.int .u32) _ _ _ (((IntKind.u64.wrap (a0)) / 4294967296) % 4294967296) [.int .u32 (((IntKind.u64.wrap (a0)) / 4294967296) % 4294967296)] from rfl) (Reps.none _ _)))); intro v1041 w16 ho17 hb hg_ hnew_; clear hg_ hnew_; (first | rw [← Ny1040.out] at ho17 | (simp only [Int.reduceToNat] at ho17; rw [← Ny1040.out] at ho17)); have HO1042 := Yt.mk (Kd.Yb ho17 (Zk (Qa0))); replace BK1030 := Yt.mk (Zq (g := gb1030) (o := .cells #[.bool false, .slice none 0 0, .slice none 0 0] 50 (0, 0)) (Qr12 BK1030.out) hb); replace HB := Yt.mk (Zm (Qa0) hb); clear hb ho17; obtain ⟨Ao18, co18, eo18⟩ := Kd.Zx HO1042.out; subst eo18) | ((with_reducible refine Zr (f := 90) rfl ?_); refine Yg (some 18) rfl rfl Try.func90 Qa8 rfl #[.slice Ao18 y1040.length co18] rfl Qa2 ?_; (with_reducible refine (nats_Trim.calls k _ _ y1040 t1043 _ ?side1 ?side2 A14.out).mono ?_); (case side1 => exact Qe11 (Kd.Zs HO1042.out).2.2); (case side2 => exact (Kd.Zs HO1042.out).2.1); rintro e w19 ⟨v1044, rfl, ho0, hb⟩; refine ⟨_, rfl, ?_⟩; have HO1045 := Yt.mk (Kd.Yb (Kd.Ya ho0 (Kd.R_lt (Qr1 HO1042.out))) (Zk (Qa0))); replace HO1042 := Yt.mk (Kd.Yf (Qr1 HO1042.out) (Kd.Zw ho0) hb); replace BK1030 := Yt.mk (Zq (g := gb1030) (o := .cells #[.bool false, .slice none 0 0, .slice none 0 0] 50 (0, 0)) (Qr12 BK1030.out) hb); replace HB := Yt.mk (Zm (Qa0) hb); (try clear hb); (try clear ho0)) | ((with_reducible refine Yk (N := 19) rfl ?_); refine Kd.R_lit (Kd.int .u32) _ 47 ?hg (N := 19) ?hd (xs := ([1] : List Int)) (inner := [.int .u32 1]) (ok := fun _ => True) (okp := fun _ => True) ?hr ?hp (fun _ hk => hk) trivial (Below.refl _ _) (Nat.le_refl _) (by simp) ?_; (case hd => rfl); (case hg => rfl); (case hr => exact Qa9); (case hp => exact (Reps.one (show Kd.M (Kd.int .u32) _ _ _ 1 [.int .u32 1] from rfl) (Reps.none _ _))); intro v1047 w20 ho21 hb hg_ hnew_; clear hg_ hnew_; (first | rw [← Ny1046.out] at ho21 | (simp only [Int.reduceToNat] at ho21; rw [← Ny1046.out] at ho21)); have HO1048 := Yt.mk (Kd.Yb (Kd.Ya (Kd.Ya ho21 (Kd.R_lt (Qr1 HO1042.out))) (Kd.R_lt (Qr1 HO1045.out))) (Zk (Qa0))); replace HO1042 := Yt.mk (Kd.Yf (Qr1 HO1042.out) (Kd.Zw ho21) hb); replace HO1045 := Yt.mk (Kd.Yf (Qr1 HO1045.out) (Kd.Zw ho21) hb); replace BK1030 := Yt.mk (Zq (g := gb1030) (o := .cells #[.bool false, .slice none 0 0, .slice none 0 0] 50 (0, 0)) (Qr12 BK1030.out) hb); replace HB := Yt.mk (Zm (Qa0) hb); clear hb ho21; obtain ⟨Ao22, co22, eo22⟩ := Kd.Zx HO1048.out; subst eo22; obtain ⟨Ao23, co23, eo23⟩ := Kd.Zx HO1045.out; subst eo23; have hcz24_0 : w20.cell? ⟨gb1030, 0, none⟩ = some (.bool false) := (Zl BK1030.out 0).trans rfl; have hcz24_1 : w20.cell? ⟨gb1030, 1, none⟩ = some (.slice none 0 0) := (Zl BK1030.out 1).trans rfl; have hcz24_2 : w20.cell? ⟨gb1030, 2, none⟩ = some (.slice none 0 0) := (Zl BK1030.out 2).trans rfl; have hfz24_0 := Zn BK1030.out 0; have hfz24_1 := Zn BK1030.out 1; have hfz24_2 := Zn BK1030.out 2))
 refine bodyPost_ret (results_cell_row rfl _ _ gb1030 50 #[.bool false, .slice Ao23 t1043.length co23, .slice Ao22 y1046.length co22] (0, 0) _ rfl (by (with_reducible repeat (first | refine Zg ?_ _ | refine Zi ?_ | refine Zh ?_ _)); refine Ym (cs := #[.bool false, .slice Ao23 t1043.length co23, .slice none 0 0]) ?_ 2 _ rfl; (with_reducible repeat (first | refine Zg ?_ _ | refine Zi ?_ | refine Zh ?_ _)); refine Ym (cs := #[.bool false, .slice none 0 0, .slice none 0 0]) ?_ 1 _ rfl; (with_reducible repeat (first | refine Zg ?_ _ | refine Zi ?_ | refine Zh ?_ _)); refine Ym (cs := #[.bool false, .slice none 0 0, .slice none 0 0]) ?_ 0 _ rfl; (with_reducible repeat (first | refine Zg ?_ _ | refine Zi ?_ | refine Zh ?_ _)); exact BK1030.out) Try.underlying50 rfl Qa8) rfl ?_
 exact ⟨_, _, Qa4, by (with_reducible repeat (first | apply Kd.Zf | apply Kd.Ze | apply Kd.Zj)); exact Kd.Zv (Kd.Yh (p := ⟨gb1030, 2, none⟩) (Kd.Yh (p := ⟨gb1030, 1, none⟩) (Kd.Yh (p := ⟨gb1030, 0, none⟩) (Kd.Yq HO1045.out BK1030.out (by decide)) (fun _ hk => hk.2) (.bool false)) (fun _ hk => hk.2) (.slice Ao23 t1043.length co23)) (fun _ hk => hk.2) (.slice Ao22 y1046.length co22)) (fun _ hk => hk.1.2), by (with_reducible repeat (first | apply Kd.Zf | apply Kd.Ze | apply Kd.Zj)); exact Kd.Zv (Kd.Yh (p := ⟨gb1030, 2, none⟩) (Kd.Yh (p := ⟨gb1030, 1, none⟩) (Kd.Yh (p := ⟨gb1030, 0, none⟩) (Kd.Yq HO1048.out BK1030.out (by decide)) (fun _ hk => hk.2) (.bool false)) (fun _ hk => hk.2) (.slice Ao23 t1043.length co23)) (fun _ hk => hk.2) (.slice Ao22 y1046.length co22)) (fun _ hk => hk.1.2), Qa0⟩
mutual
def nats_Digits.l0 : Nat → List Int → List Int → Option (ByteArray)
 | 0, _, _ => none
 | k + 1, x0, x3 => if (x0.length : Int) > 0 then ((nats_word.f k x0 1000000000).bind fun bt277 => (nats_Digits.l1 k bt277.1 x3 bt277.2 0)) else (nats_Digits.l2 k x3)
def nats_Digits.l1 : Nat → List Int → List Int → Int → Int → Option (ByteArray)
 | 0, _, _, _, _ => none
 | k + 1, x0, x3, x4, x20 => if x20 < 9 then (if x3.length < 140737488355328 then (nats_Digits.l1 k x0 (x3 ++ [(48 + (Int.tmod x4 10)) % 256]) ((Int.tdiv x4 10) % 4294967296) (wrap64 (x20 + 1))) else (none)) else (nats_Digits.l0 k x0 x3)
def nats_Digits.l2 : Nat → List Int → Option (ByteArray)
 | 0, _ => none
 | k + 1, x3 => if 0 ≤ (wrap64 ((x3.length : Int) - 1)) then (if (wrap64 ((x3.length : Int) - 1)) < (x3.length : Int) then (if (rd x3 (wrap64 ((x3.length : Int) - 1))) = 48 then (if (wrap64 ((x3.length : Int) - 1)) ≤ (x3.length : Int) then (nats_Digits.l2 k (x3.take ((wrap64 ((x3.length : Int) - 1)) : Int).toNat)) else (none)) else (nats_Digits.l3 k x3 0 (wrap64 ((x3.length : Int) - 1)))) else (none)) else (none)
def nats_Digits.l3 : Nat → List Int → Int → Int → Option (ByteArray)
 | 0, _, _, _ => none
 | k + 1, x3, x5, x6 => if x5 < x6 then (if 0 ≤ x6 then (if x6 < (x3.length : Int) then (if 0 ≤ x5 then (if x5 < (x3.length : Int) then (nats_Digits.l3 k ((x3.set (x5 : Int).toNat (rd x3 x6)).set (x6 : Int).toNat (rd x3 x5)) (wrap64 (x5 + 1)) (wrap64 (x6 - 1))) else (none)) else (none)) else (none)) else (none)) else (some (strOfNums x3))
end
def nats_Digits.f (k : Nat) (l0 : List Int) : Option (ByteArray) := (nats_Trim.f k l0).bind fun t274 => (if (t274.length : Int) = 0 then (some (⟨#[48]⟩ : ByteArray)) else (nats_Digits.l0 k t274 ([] : List Int)))
theorem nats_Digits.mono_l : ∀ k, (∀ y0 y1, LeO (nats_Digits.l0 k y0 y1) (nats_Digits.l0 (k + 1) y0 y1)) ∧ (∀ y0 y1 y2 y3, LeO (nats_Digits.l1 k y0 y1 y2 y3) (nats_Digits.l1 (k + 1) y0 y1 y2 y3)) ∧ (∀ y0, LeO (nats_Digits.l2 k y0) (nats_Digits.l2 (k + 1) y0)) ∧ (∀ y0 y1 y2, LeO (nats_Digits.l3 k y0 y1 y2) (nats_Digits.l3 (k + 1) y0 y1 y2))
 | 0 => ⟨fun _ _ r h => by simp [nats_Digits.l0] at h, fun _ _ _ _ r h => by simp [nats_Digits.l1] at h, fun _ r h => by simp [nats_Digits.l2] at h, fun _ _ _ r h => by simp [nats_Digits.l3] at h⟩
 | k + 1 => by
  obtain ⟨ih0, ih1, ih2, ih3⟩ := nats_Digits.mono_l k
  refine ⟨?_, ?_, ?_, ?_⟩
  ·intro y0 y1
   unfold nats_Digits.l0
   have m0 := @nats_Trim.mono
   have m1 := @nats_word.mono
   exact Qa6
  ·intro y0 y1 y2 y3
   unfold nats_Digits.l1
   have m0 := @nats_Trim.mono
   have m1 := @nats_word.mono
   exact Qa6
  ·intro y0
   unfold nats_Digits.l2
   have m0 := @nats_Trim.mono
   have m1 := @nats_word.mono
   exact Qa6
  ·intro y0 y1 y2
   unfold nats_Digits.l3
   have m0 := @nats_Trim.mono
   have m1 := @nats_word.mono
   exact Qa6
theorem nats_Digits.mono : ∀ a0 k, LeO (nats_Digits.f k a0) (nats_Digits.f (k + 1) a0) := by
 intro a0 k
 obtain ⟨ih0, ih1, ih2, ih3⟩ := nats_Digits.mono_l k
 unfold nats_Digits.f
 have m0 := @nats_Trim.mono
 have m1 := @nats_word.mono
 exact Qa6
def nats_Digits.T18 : Bool × List (List Nat × List Nat) := (true, [([], []), ([], []), ([], []), ([], []), ([], []), ([], []), ([4, 5], [4, 5]), ([6], [6]), ([], []), ([], []), ([8, 9], [8, 9]), ([10], [10]), ([0, 1, 0, 1, 4, 5, 6, 7, 11], [0, 1]), ([12, 7, 0, 1, 4, 5, 6, 7, 11], [7, 12]), ([2, 3, 0, 1, 2, 3, 4, 5, 6, 7, 8, 9, 10, 11, 12, 13], [2, 3]), ([14, 11, 13, 0, 1, 2, 3, 4, 5, 6, 7, 8, 9, 10, 11, 12, 13], [11, 14])])
def nats_Digits.B18 : List Nat := [0, 0, 0, 0, 0, 0, 48, 112, 0, 0, 768, 1792, 4083, 8179, 16383, 32767]
theorem nats_Digits.tab18 : rtab .any (opsOf Try.f86 18) = nats_Digits.T18 := by kernel_rfl
theorem nats_Digits.bits18 : waitsOk nats_Digits.T18.2 nats_Digits.B18 = true := by kernel_rfl
theorem nats_Digits.calls (k : Nat) (A0 : Option Addr) (c0 : Nat) (l0 : List Int) (r : ByteArray) (w : World) (hr0 : Kd.C (Kd.int .u32) w A0 l0.length l0) (hc0 : l0.length ≤ c0) (h : nats_Digits.f k l0 = some r) :
  Calls Try.prog 86 #[.slice A0 l0.length c0] w fun e w' => e = .returned (.string r) ∧ Below w.heap.size w w' := by
 have HR0 := Yt.mk hr0
 have HC0 := Yt.mk hc0
 clear hr0 hc0
 have HB := Yt.mk (Below.refl w.heap.size w)
 unfold nats_Digits.f at h
 have H := h
 clear h
 replace H := Option.bind_eq_some_iff.mp H
 obtain ⟨t274, A20, H⟩ := H
 try dsimp only at H
 have A2 := Yt.mk A20
 clear A20
 by_cases c3 : (t274.length : Int) = 0
 ·rw [if_pos c3] at H
  have c3b0 : ((t274.length : Int) == 0) = true := beq_iff_eq.mpr c3
  have c3b1 : ((t274.length : Int) != 0) = false := bne_eq_false_iff_eq.mpr c3
  clear c3
  obtain rfl := Option.some.inj H
  go_enter Try.func86, Try.ntmps86
  go_wp2_with (first | ((with_reducible refine Zr (f := 90) rfl ?_); refine Yg (some 8) rfl rfl Try.func90 Qa8 rfl #[.slice A0 l0.length c0] rfl Qa2 ?_; (with_reducible refine (nats_Trim.calls k _ _ l0 t274 _ ?side1 ?side2 A2.out).mono ?_); (case side1 => exact Qe11 HR0.out); (case side2 => exact HC0.out); rintro e w4 ⟨v275, rfl, ho0, hb⟩; refine ⟨_, rfl, ?_⟩; have HO276 := Yt.mk (Kd.Yb ho0 (Zk (Qa0))); replace HB := Yt.mk (Zm (Qa0) hb); (try clear hb); (try clear ho0); obtain ⟨Ao5, co5, eo5⟩ := Kd.Zx HO276.out; subst eo5))
  go_ret
  exact ⟨Qa4, Qa0⟩
 rw [if_neg c3] at H
 have c3b0 : ((t274.length : Int) == 0) = false := beq_eq_false_iff_ne.mpr c3
 have c3b1 : ((t274.length : Int) != 0) = true := bne_iff_ne.mpr c3
 have c3b2 : ¬ (t274 = []) := fun h_ => c3 (by rw [h_]; rfl)
 have H' := Yt.mk H
 clear H
 go_enter Try.func86, Try.ntmps86
 go_wp2_with (first | ((with_reducible refine Zr (f := 90) rfl ?_); refine Yg (some 8) rfl rfl Try.func90 Qa8 rfl #[.slice A0 l0.length c0] rfl Qa2 ?_; (with_reducible refine (nats_Trim.calls k _ _ l0 t274 _ ?side1 ?side2 A2.out).mono ?_); (case side1 => exact Qe11 HR0.out); (case side2 => exact HC0.out); rintro e w6 ⟨v275, rfl, ho0, hb⟩; refine ⟨_, rfl, ?_⟩; have HO276 := Yt.mk (Kd.Yb ho0 (Zk (Qa0))); replace HB := Yt.mk (Zm (Qa0) hb); (try clear hb); (try clear ho0); obtain ⟨Ao7, co7, eo7⟩ := Kd.Zx HO276.out; subst eo7))
 go_loopg [0, 3] k (fun kq v0 v3 w' => ∃ (x0_1 : List Int) (x3_1 : List Int), Yt (nats_Digits.l0 kq x0_1 x3_1 = some r) ∧ Yt (kq ≤ k) ∧ Yt (Kd.R (Kd.int .u32) 47 w' w.heap.size (fun _ => True) v0 x0_1) ∧ Yt (Kd.R (Kd.int .u8) 5 w' w.heap.size (fun _ => True) v3 x3_1) ∧ Yt (Below w.heap.size w w'))
 case atStart => exact ⟨(t274), (([] : List Int)), H', ⟨Nat.le_refl _⟩, ⟨Qr1 HO276.out⟩, ⟨by first | exact Kd.R_nil _ _ _ _ _ | exact Kd.N_nil _ _ _ _ _ | exact Kd.V_nil _ _ _ _ _ | exact Kd.Q_nil _ _ _ _ _ | exact Kd.S_nil _ _ _ _ _⟩, ⟨Qa0⟩⟩
 case round =>
  clear H'
  try clear p2; try clear c3; try clear c3b0; try clear c3b1; try clear c3b2
  obtain ⟨x0_1, x3_1, HA, HK1, HO_0, HO_3, HB⟩ := hrel
  cases gk with
  | zero => exact absurd HA.out (by simp [nats_Digits.l0])
  | succ k1 =>
   have H := HA.out
   clear HA
   simp only [nats_Digits.l0] at H
   by_cases c8 : (x0_1.length : Int) > 0
   ·rw [if_pos c8] at H
    have c8b0 : decide (0 < (x0_1.length : Int)) = true := decide_eq_true c8
    have c8b1 : decide (0 < x0_1.length) = true := decide_eq_true (by omega)
    clear c8
    replace H := Option.bind_eq_some_iff.mp H
    obtain ⟨⟨t277, t278⟩, A90, H⟩ := H
    replace H : (nats_Digits.l1 k1 t277 x3_1 t278 0) = some r := H
    have A9 := Yt.mk A90
    clear A90
    have H' := Yt.mk H
    clear H
    obtain ⟨Ao10, co10, eo10⟩ := Kd.Zx HO_0.out
    subst eo10
    go_wp2_with (first | ((with_reducible refine Zr (f := 110) rfl ?_); refine Yg (some 17) rfl rfl Try.func110 Qa8 rfl #[.slice Ao10 x0_1.length co10, .int .u32 1000000000] rfl Qa2 ?_; (with_reducible refine (nats_word.calls k1 _ _ x0_1 1000000000 t277 t278 _ ?side1 ?side2 A9.out).mono ?_); (case side1 => exact Qe11 (Kd.Zs HO_0.out).2.2); (case side2 => exact (Kd.Zs HO_0.out).2.1); rintro e w11 ⟨v279, rfl, ho0, hb⟩; refine ⟨_, rfl, ?_⟩; replace HO_3 := Yt.mk (Kd.Yd (Qr1 HO_3.out) hb); have HO280 := Yt.mk (Kd.Yb (Kd.Ya ho0 (Kd.R_lt (Qr1 HO_0.out))) (Zk (Qa0))); replace HO_0 := Yt.mk (Kd.Yf (Qr1 HO_0.out) (Kd.Zw ho0) hb); replace HB := Yt.mk (Zm (Qa0) hb); (try clear hb); (try clear ho0)))
    go_loopg [3, 4, 20] k1 (fun kq v3 v4 v20 w' => ∃ (x3_2 : List Int) (x4_2 : Int) (x20_2 : Int), v4 = .int .u32 x4_2 ∧ v20 = .int .i64 x20_2 ∧ Yt (nats_Digits.l1 kq t277 x3_2 x4_2 x20_2 = some r) ∧ Yt (kq ≤ k1) ∧ Yt (Kd.R (Kd.int .u32) 47 w' w.heap.size (fun _ => True) v279 t277) ∧ Yt (Kd.R (Kd.int .u8) 5 w' w.heap.size (fun _ => True) v3 x3_2) ∧ Yt (Below w.heap.size w w'))
    case atStart => exact ⟨(x3_1), (t278), (0), Qa5, Qa5, H', ⟨Nat.le_refl _⟩, ⟨by (with_reducible repeat (first | apply Kd.Zf | apply Kd.Ze | apply Kd.Zj)); exact Kd.Zv HO280.out (fun _ hk => trivial)⟩, ⟨Qr1 HO_3.out⟩, ⟨Qa0⟩⟩
    case round =>
     clear H'
     try clear c1; try clear p2; try clear c3; try clear c3b0; try clear c3b1; try clear c3b2; try clear c8; try clear c8b0; try clear c8b1; try clear c9; try clear c11; try clear p2
     obtain ⟨x3_2, x4_2, x20_2, rfl, rfl, HA, HK2, HO_0, HO_3, HB⟩ := hrel
     cases gk with
     | zero => exact absurd HA.out (by simp [nats_Digits.l1])
     | succ k2 =>
      have H := HA.out
      clear HA
      simp only [nats_Digits.l1] at H
      by_cases c12 : x20_2 < 9
      rotate_left
      ·rw [if_neg c12] at H
       have c12b0 : decide (x20_2 < 9) = false := decide_eq_false c12
       clear c12
       have H' := Yt.mk H
       clear H
       go_wp2
       go_roundg k2
       case measure => have := HK1.out; have := HK2.out; omega
       case rel => exact ⟨(t277), (x3_2), H', ⟨by have := HK1.out; have := HK2.out; omega⟩, ⟨Qr1 HO_0.out⟩, ⟨Qr1 HO_3.out⟩, ⟨Qa0⟩⟩
      rw [if_pos c12] at H
      have c12b0 : decide (x20_2 < 9) = true := decide_eq_true c12
      clear c12
      by_cases c13 : x3_2.length < 140737488355328
      rotate_left
      ·rw [if_neg c13] at H
       exact absurd H (by simp)
      rw [if_pos c13] at H
      have LMc13 := Yt.mk c13
      clear c13
      obtain ⟨y281, hy281⟩ : ∃ y_ : List Int, y_ = (x3_2 ++ [(48 + (Int.tmod x4_2 10)) % 256]) := ⟨_, rfl⟩
      replace H : (nats_Digits.l1 k2 t277 y281 ((Int.tdiv x4_2 10) % 4294967296) (wrap64 (x20_2 + 1))) = some r := Qh hy281 H
      have Ny281 := Yt.mk hy281
      clear hy281
      have H' := Yt.mk H
      clear H
      go_wp2_with (first | ((with_reducible refine gate_builtin (b := .append) (xs := #[.tmp 22, .tmp 27]) rfl ?_); at_builtin; refine Kd.R_append (Kd.int .u8) (w0 := w) w.heap.size rfl (.tmp 22) (.tmp 27) 98 5 (.int .u8 0) 1 rfl Try.underlying98 info5 rfl (by decide) (by omega) u3 x3_2 ((48 + (Int.tmod x4_2 10)) % 256) [.int .u8 ((48 + (Int.tmod x4_2 10)) % 256)] (fun _ => True) (fun _ => False) rfl rfl ?aP (fun _ hk => hk.elim) ?aF ?aO ?aB ?aS ?aL ?_; (case aP => exact rfl); (case aB => exact (Qa0)); (case aF => exact (fun _ _ => trivial)); (case aO => exact (Qr1 HO_3.out)); (case aS => exact (Zk (Qa0))); (case aL => have := LMc13.out; omega); intro v282 w14 ho hb hg hat; rw [← Ny281.out] at ho; replace HO_0 := Yt.mk (Kd.R_over' (Qr1 HO_0.out) (Kd.R_typed (Qr1 HO_3.out)) (by decide) hg); replace HB := Yt.mk (hb); have HO283 := Yt.mk (ho); clear HO_3; clear ho hb hg hat))
      go_roundg k2
      case measure => have := HK1.out; have := HK2.out; omega
      case rel => exact ⟨(y281), ((Int.tdiv x4_2 10) % 4294967296), (wrap64 (x20_2 + 1)), Qa5, Qa5, H', ⟨by have := HK1.out; have := HK2.out; omega⟩, ⟨Qr1 HO_0.out⟩, ⟨Qr1 HO283.out⟩, ⟨Qa0⟩⟩
   rw [if_neg c8] at H
   have c8b0 : decide (0 < (x0_1.length : Int)) = false := decide_eq_false c8
   have c8b1 : decide (0 < x0_1.length) = false := decide_eq_false (by omega)
   clear c8
   have H' := Yt.mk H
   clear H
   obtain ⟨Ao15, co15, eo15⟩ := Kd.Zx HO_0.out
   subst eo15
   go_wp2
   go_loopg [3] k1 (fun kq v3 w' => ∃ (x3_2 : List Int), Yt (nats_Digits.l2 kq x3_2 = some r) ∧ Yt (kq ≤ k1) ∧ Yt (Kd.R (Kd.int .u8) 5 w' w.heap.size (fun _ => True) v3 x3_2) ∧ Yt (Below w.heap.size w w'))
   case atStart => exact ⟨(x3_1), H', ⟨Nat.le_refl _⟩, ⟨Qr1 HO_3.out⟩, ⟨Qa0⟩⟩
   case round =>
    clear H'
    try clear c1; try clear p2; try clear c3; try clear c3b0; try clear c3b1; try clear c3b2; try clear p6; try clear c8; try clear c8b0; try clear c8b1; try clear c9; try clear c11; try clear c12; try clear c12b0; try clear c13; try clear p2
    obtain ⟨x3_2, HA, HK2, HO_3, HB⟩ := hrel
    cases gk with
    | zero => exact absurd HA.out (by simp [nats_Digits.l2])
    | succ k2 =>
     have H := HA.out
     clear HA
     simp only [nats_Digits.l2] at H
     obtain ⟨ji16, hji16⟩ : ∃ j_ : Int, (wrap64 ((x3_2.length : Int) - 1)) = j_ := ⟨_, rfl⟩
     replace H : (if 0 ≤ (ji16) then (if (ji16) < (x3_2.length : Int) then (if (rd x3_2 (ji16)) = 48 then (if (ji16) ≤ (x3_2.length : Int) then (nats_Digits.l2 k2 (x3_2.take ((ji16) : Int).toNat)) else (none)) else (nats_Digits.l3 k2 x3_2 0 ji16)) else (none)) else (none)) = some r := by first | (rw [hji16] at H; exact H) | (simp only [hji16] at H ⊢; exact H)
     have hji16w : (IntKind.i64.wrap ((x3_2.length : Int) - 1)) = ji16 := (Yi _).trans hji16
     by_cases c17 : 0 ≤ (ji16)
     rotate_left
     ·rw [if_neg c17] at H
      exact absurd H (by simp)
     rw [if_pos c17] at H
     have c17b0 : decide (0 ≤ (ji16)) = true := decide_eq_true c17
     clear c17
     by_cases c18 : (ji16) < (x3_2.length : Int)
     rotate_left
     ·rw [if_neg c18] at H
      exact absurd H (by simp)
     rw [if_pos c18] at H
     have c18b0 : decide ((ji16) < (x3_2.length : Int)) = true := decide_eq_true c18
     clear c18
     by_cases c19 : (rd x3_2 (ji16)) = 48
     ·rw [if_pos c19] at H
      have c19b0 : ((rd x3_2 (ji16)) == 48) = true := beq_iff_eq.mpr c19
      have c19b1 : ((rd x3_2 (ji16)) != 48) = false := bne_eq_false_iff_eq.mpr c19
      clear c19
      by_cases c20 : (ji16) ≤ (x3_2.length : Int)
      rotate_left
      ·rw [if_neg c20] at H
       exact absurd H (by simp)
      rw [if_pos c20] at H
      have c20b0 := eq_true c20
      have c20b1 : decide ((ji16) ≤ (x3_2.length : Int)) = true := decide_eq_true c20
      clear c20
      obtain ⟨y285, hy285⟩ : ∃ y_ : List Int, y_ = (x3_2.take ((ji16) : Int).toNat) := ⟨_, rfl⟩
      replace H : (nats_Digits.l2 k2 y285) = some r := Qh hy285 H
      have Ny285 := Yt.mk hy285
      clear hy285
      have H' := Yt.mk H
      clear H
      obtain ⟨Ao21, co21, eo21⟩ := Kd.Zx HO_3.out
      subst eo21
      have p284 : 0 ≤ ((ji16) : Int) := Qd
      have q284 : (ji16) < (x3_2.length : Int) := Qd
      obtain ⟨ad284, e284, hx284_0⟩ := Kd.at_int (Kd.Zs HO_3.out).2.2 (ji16) p284 q284
      cases e284
      replace p284 := eq_true p284
      replace q284 := eq_true q284
      have q22 : ((ji16) : Int) ≤ ((x3_2.length : Int) : Int) := Qd
      obtain ⟨i022, hi022, _, hsz22, _⟩ := info_parts info5
      have hcut22 := cut_to (P := Try.prog) 98 5 .i64 Try.underlying98 hi022 (some ad284) x3_2.length co21 (ji16) (Qd) q22 (Kd.Zs HO_3.out).2.1
      have hr22 := Kd.R_take (m := ((ji16) : Int).toNat) HO_3.out (by omega)
      have hy22 : y285.length = ((ji16) : Int).toNat := (by rw [Ny285.out, List.length_take]; omega)
      rw [← Ny285.out] at hr22
      rw [← hy22] at hr22 hcut22
      clear hy22 hi022 hsz22 HO_3
      have HO287 := Yt.mk hr22
      clear hr22
      replace q22 := eq_true q22
      go_wp2
      go_roundg k2
      case measure => have := HK1.out; have := HK2.out; omega
      case rel => exact ⟨(y285), H', ⟨by have := HK1.out; have := HK2.out; omega⟩, ⟨Qr1 HO287.out⟩, ⟨Qa0⟩⟩
     rw [if_neg c19] at H
     have c19b0 : ((rd x3_2 (ji16)) == 48) = false := beq_eq_false_iff_ne.mpr c19
     have c19b1 : ((rd x3_2 (ji16)) != 48) = true := bne_iff_ne.mpr c19
     have H' := Yt.mk H
     clear H
     obtain ⟨Ao23, co23, eo23⟩ := Kd.Zx HO_3.out
     subst eo23
     have p284 : 0 ≤ ((ji16) : Int) := Qd
     have q284 : (ji16) < (x3_2.length : Int) := Qd
     obtain ⟨ad284, e284, hx284_0⟩ := Kd.at_int (Kd.Zs HO_3.out).2.2 (ji16) p284 q284
     cases e284
     replace p284 := eq_true p284
     replace q284 := eq_true q284
     go_wp2
     go_loopg [5, 6] k2 (fun kq v5 v6 w' => ∃ (x3_3 : List Int) (x5_3 : Int) (x6_3 : Int), v5 = .int .i64 x5_3 ∧ v6 = .int .i64 x6_3 ∧ Yt (nats_Digits.l3 kq x3_3 x5_3 x6_3 = some r) ∧ Yt (kq ≤ k2) ∧ Yt (Kd.R (Kd.int .u8) 5 w' w.heap.size (fun _ => True) (.slice (some ad284) x3_2.length co23) x3_3) ∧ Yt (Below w.heap.size w w'))
     case atStart => exact ⟨(x3_2), (0), (ji16), Qa5, (by first | rfl | (simp; done) | (simp only [← hji16] <;> (first | rfl | simp)) | (simp [*]; done)), H', ⟨Nat.le_refl _⟩, ⟨Qr1 HO_3.out⟩, ⟨Qa0⟩⟩
     case round =>
      clear H'
      try clear c1; try clear c2; try clear p2; try clear q2; try clear hx2; try clear c3; try clear c3b0; try clear c3b1; try clear c3b2; try clear p6; try clear c8; try clear c8b0; try clear c8b1; try clear c9; try clear c11; try clear c12; try clear c12b0; try clear c13; try clear c17; try clear c17b0; try clear c18; try clear c18b0; try clear c19; try clear c19b0; try clear c19b1; try clear c20; try clear c20b0; try clear c20b1; try clear q22; try clear hx284_0; try clear p2; try clear p284; try clear p6; try clear q22; try clear q284
      obtain ⟨x3_3, x5_3, x6_3, rfl, rfl, HA, HK3, HO_3, HB⟩ := hrel
      have hl3_3 := (Kd.Zs HO_3.out).1
      rw [hl3_3] at HO_3
      (try simp only [hl3_3])
      cases gk with
      | zero => exact absurd HA.out (by simp [nats_Digits.l3])
      | succ k3 =>
       have H := HA.out
       clear HA
       simp only [nats_Digits.l3] at H
       by_cases c24 : x5_3 < x6_3
       rotate_left
       ·rw [if_neg c24] at H
        have c24b0 : decide (x5_3 < x6_3) = false := decide_eq_false c24
        clear c24
        obtain rfl := Option.some.inj H
        have hcv34 := own_string (P := Try.prog) Try.underlying98 Try.underlying5 Try.underlying9 (Kd.own_of_R HO_3.out)
        go_wp2
        go_ret
        exact ⟨by first | rfl | (simp [Zp, Zo] <;> rfl) | (simp only [← hji16]; first | rfl | (simp [Zp, Zo] <;> rfl)) | (simp [*, Zp, Zo] <;> rfl), Qa0⟩
       rw [if_pos c24] at H
       have c24b0 : decide (x5_3 < x6_3) = true := decide_eq_true c24
       clear c24
       by_cases c25 : 0 ≤ x6_3
       rotate_left
       ·rw [if_neg c25] at H
        exact absurd H (by simp)
       rw [if_pos c25] at H
       have c25b0 : decide (0 ≤ x6_3) = true := decide_eq_true c25
       clear c25
       by_cases c26 : x6_3 < (x3_3.length : Int)
       rotate_left
       ·rw [if_neg c26] at H
        exact absurd H (by simp)
       rw [if_pos c26] at H
       have c26b0 : decide (x6_3 < (x3_3.length : Int)) = true := decide_eq_true c26
       (try (have c26b0hl3_3 := c26b0; rw [hl3_3] at c26b0hl3_3))
       clear c26
       by_cases c27 : 0 ≤ x5_3
       rotate_left
       ·rw [if_neg c27] at H
        exact absurd H (by simp)
       rw [if_pos c27] at H
       have c27b0 : decide (0 ≤ x5_3) = true := decide_eq_true c27
       clear c27
       by_cases c28 : x5_3 < (x3_3.length : Int)
       rotate_left
       ·rw [if_neg c28] at H
        exact absurd H (by simp)
       rw [if_pos c28] at H
       have c28b0 : decide (x5_3 < (x3_3.length : Int)) = true := decide_eq_true c28
       (try (have c28b0hl3_3 := c28b0; rw [hl3_3] at c28b0hl3_3))
       clear c28
       obtain ⟨y290, hy290⟩ : ∃ y_ : List Int, y_ = (x3_3.set (x5_3 : Int).toNat (rd x3_3 x6_3)) := ⟨_, rfl⟩
       replace H : (nats_Digits.l3 k3 (y290.set (x6_3 : Int).toNat (rd x3_3 x5_3)) (wrap64 (x5_3 + 1)) (wrap64 (x6_3 - 1))) = some r := Qh hy290 H
       have Ny290 := Yt.mk hy290
       clear hy290
       obtain ⟨y291, hy291⟩ : ∃ y_ : List Int, y_ = (y290.set (x6_3 : Int).toNat (rd x3_3 x5_3)) := ⟨_, rfl⟩
       replace H : (nats_Digits.l3 k3 y291 (wrap64 (x5_3 + 1)) (wrap64 (x6_3 - 1))) = some r := Qh hy291 H
       have Ny291 := Yt.mk hy291
       clear hy291
       have H' := Yt.mk H
       clear H
       try go_wp2
       replace HO_3 := Yt.mk (Kd.Zj HO_3.out)
       replace HB := Yt.mk (Zc HB.out)
       have p288 : 0 ≤ (x6_3 : Int) := Qd
       have q288 : x6_3 < (x3_3.length : Int) := Qd
       obtain ⟨ad288, e288, hx288_0⟩ := Kd.at_int (Kd.Zs HO_3.out).2.2 x6_3 p288 q288
       obtain rfl : ad284 = ad288 := (by injection e288)
       replace p288 := eq_true p288
       replace q288 := eq_true q288
       have p289 : 0 ≤ (x5_3 : Int) := Qd
       have q289 : x5_3 < (x3_3.length : Int) := Qd
       obtain ⟨ad289, e289, hx289_0⟩ := Kd.at_int (Kd.Zs HO_3.out).2.2 x5_3 p289 q289
       obtain rfl : ad284 = ad289 := (by injection e289)
       replace p289 := eq_true p289
       replace q289 := eq_true q289
       have p29 : 0 ≤ (x5_3 : Int) := Qd
       have q29 : (x5_3 : Int) < ((x3_3.length : Int) : Int) := Qd
       obtain ⟨go29, co29, eo29, gb29, gl29, cl29, HG29⟩ := Kd.R_form HO_3.out (by omega)
       (first | cases eo29 | (injection eo29 with ea_ en_ ec_; (first | subst ea_ | (injection ea_ with ea_; subst ea_)); subst ec_; clear en_))
       have GB29 := Yt.mk gb29
       have GG29 := Yt.mk HG29
       clear gb29 gl29 HG29
       (first | simp only [add_plain] at hx284_0 | skip)
       (first | simp only [add_plain] at hx288_0 | skip)
       (first | simp only [add_plain] at hx289_0 | skip)
       obtain ⟨hx29_0, hf29_0⟩ := Kd.R_celln 0 HO_3.out (x5_3 : Int) p29 q29
       replace p29 := eq_true p29
       replace q29 := eq_true q29
       have HP32 := Kd.R_putn HO_3.out (x5_3 : Int) (rd x3_3 x6_3)
       rw [← Ny290.out] at HP32
       have HQ32 := Yt.mk HP32
       clear HP32
       have p30 : 0 ≤ (x6_3 : Int) := Qd
       have q30 : (x6_3 : Int) < ((x3_3.length : Int) : Int) := Qd
       obtain ⟨hx30_0, hf30_0⟩ := Kd.R_celln 0 HQ32.out (x6_3 : Int) p30 q30
       replace p30 := eq_true p30
       replace q30 := eq_true q30
       have HP33 := Kd.R_putn HQ32.out (x6_3 : Int) (rd x3_3 x5_3)
       rw [← Ny291.out] at HP33
       have HQ33 := Yt.mk HP33
       clear HP33
       refine start_ (n := 16) (S := fun w' => w'.cell? ⟨go29, (x6_3).toNat, none⟩ = some (.int .u8 (rd x3_3 x6_3)) ∧ w'.cell? ⟨go29, (x5_3).toNat, none⟩ = some (.int .u8 (rd x3_3 x5_3))) (ds := [13, 15]) #[false, false, false, false, false, false, false, false, false, false, false, false, false, false, false, false] Qa8 rfl rfl ⟨hx288_0, hx289_0⟩ (fun hHeld => ?_); refine with_tabW nats_Digits.tab18 nats_Digits.bits18 (fun HT_ HW_ => ?_)
       generalize wr.drew = w31 at HO_3 HB GG29 HQ32 HQ33 hf29_0 hf30_0 hx288_0 hx289_0 hx29_0 hx30_0 hHeld ⊢
       refine pure_ (i := 0) (N := some 54) (v := ?_) (a' := ?_) #[true, false, false, false, false, false, false, false, false, false, false, false, false, false, false, false] rfl rfl (any_of HT_.out Qa8) (fun _ _ _ h => h) (Or.inl ⟨by rfl, ?_⟩) ?_ ?_
       rotate_left
       ·intro w'
        go_simp
        with_reducible rfl
       rotate_left
       ·simp only [Act.put, List.setIfInBounds_toArray, List.set_cons_zero, List.set_cons_succ, Yi, Yj]
        rfl
       refine pure_ (i := 1) (N := some 55) (v := ?_) (a' := ?_) #[true, true, false, false, false, false, false, false, false, false, false, false, false, false, false, false] rfl rfl (any_of HT_.out Qa8) (fun _ _ _ h => h) (Or.inl ⟨by rfl, ?_⟩) ?_ ?_
       rotate_left
       ·intro w'
        go_simp
        with_reducible rfl
       rotate_left
       ·simp only [Act.put, List.setIfInBounds_toArray, List.set_cons_zero, List.set_cons_succ, Yi, Yj]
        rfl
       refine pure_ (i := 2) (N := some 56) (v := ?_) (a' := ?_) #[true, true, true, false, false, false, false, false, false, false, false, false, false, false, false, false] rfl rfl (any_of HT_.out Qa8) (fun _ _ _ h => h) (Or.inl ⟨by rfl, ?_⟩) ?_ ?_
       rotate_left
       ·intro w'
        go_simp
        with_reducible rfl
       rotate_left
       ·simp only [Act.put, List.setIfInBounds_toArray, List.set_cons_zero, List.set_cons_succ, Yi, Yj]
        rfl
       refine pure_ (i := 3) (N := some 57) (v := ?_) (a' := ?_) #[true, true, true, true, false, false, false, false, false, false, false, false, false, false, false, false] rfl rfl (any_of HT_.out Qa8) (fun _ _ _ h => h) (Or.inl ⟨by rfl, ?_⟩) ?_ ?_
       rotate_left
       ·intro w'
        go_simp
        with_reducible rfl
       rotate_left
       ·simp only [Act.put, List.setIfInBounds_toArray, List.set_cons_zero, List.set_cons_succ, Yi, Yj]
        rfl
       refine pure_ (i := 4) (N := some 58) (v := ?_) (a' := ?_) #[true, true, true, true, true, false, false, false, false, false, false, false, false, false, false, false] rfl rfl (any_of HT_.out Qa8) (fun _ _ _ h => h) (Or.inl ⟨by rfl, ?_⟩) ?_ ?_
       rotate_left
       ·intro w'
        go_simp
        with_reducible rfl
       rotate_left
       ·simp only [Act.put, List.setIfInBounds_toArray, List.set_cons_zero, List.set_cons_succ, Yi, Yj]
        rfl
       refine pure_ (i := 5) (N := some 59) (v := ?_) (a' := ?_) #[true, true, true, true, true, true, false, false, false, false, false, false, false, false, false, false] rfl rfl (any_of HT_.out Qa8) (fun _ _ _ h => h) (Or.inl ⟨by rfl, ?_⟩) ?_ ?_
       rotate_left
       ·intro w'
        go_simp
        with_reducible rfl
       rotate_left
       ·simp only [Act.put, List.setIfInBounds_toArray, List.set_cons_zero, List.set_cons_succ, Yi, Yj]
        rfl
       refine pure_ (i := 6) (N := some 60) (v := ?_) (a' := ?_) #[true, true, true, true, true, true, true, false, false, false, false, false, false, false, false, false] rfl rfl (any_of HT_.out Qa8) (fun _ _ _ h => h) (Or.inl ⟨by rfl, ?_⟩) ?_ ?_
       rotate_left
       ·intro w'
        go_simp
        with_reducible rfl
       rotate_left
       ·simp only [Act.put, List.setIfInBounds_toArray, List.set_cons_zero, List.set_cons_succ, Yi, Yj]
        rfl
       refine pure_ (i := 8) (N := some 62) (v := ?_) (a' := ?_) #[true, true, true, true, true, true, true, false, true, false, false, false, false, false, false, false] rfl rfl (any_of HT_.out Qa8) (fun _ _ _ h => h) (Or.inl ⟨by rfl, ?_⟩) ?_ ?_
       rotate_left
       ·intro w'
        go_simp
        with_reducible rfl
       rotate_left
       ·simp only [Act.put, List.setIfInBounds_toArray, List.set_cons_zero, List.set_cons_succ, Yi, Yj]
        rfl
       refine pure_ (i := 9) (N := some 63) (v := ?_) (a' := ?_) #[true, true, true, true, true, true, true, false, true, true, false, false, false, false, false, false] rfl rfl (any_of HT_.out Qa8) (fun _ _ _ h => h) (Or.inl ⟨by rfl, ?_⟩) ?_ ?_
       rotate_left
       ·intro w'
        go_simp
        with_reducible rfl
       rotate_left
       ·simp only [Act.put, List.setIfInBounds_toArray, List.set_cons_zero, List.set_cons_succ, Yi, Yj]
        rfl
       refine pure_ (i := 10) (N := some 64) (v := ?_) (a' := ?_) #[true, true, true, true, true, true, true, false, true, true, true, false, false, false, false, false] rfl rfl (any_of HT_.out Qa8) (fun _ _ _ h => h) (Or.inl ⟨by rfl, ?_⟩) ?_ ?_
       rotate_left
       ·intro w'
        go_simp
        with_reducible rfl
       rotate_left
       ·simp only [Act.put, List.setIfInBounds_toArray, List.set_cons_zero, List.set_cons_succ, Yi, Yj]
        rfl
       refine take_ (i := 7) (N := some 61) (v := ?_) (a' := ?_) #[true, true, true, true, true, true, true, true, true, true, true, false, false, false, false, false] rfl rfl (take_ofW HT_.out HW_.out Qa8) (fun _ _ _ h => h) (Or.inl ⟨by rfl, ?_⟩) hHeld ?_ ?_
       rotate_left
       ·rintro w' ⟨s0, s1⟩
        go_simp
        with_reducible rfl
       rotate_left
       ·simp only [Act.put, List.setIfInBounds_toArray, List.set_cons_zero, List.set_cons_succ, Yi, Yj]
        rfl
       refine take_ (i := 11) (N := some 65) (v := ?_) (a' := ?_) #[true, true, true, true, true, true, true, true, true, true, true, true, false, false, false, false] rfl rfl (take_ofW HT_.out HW_.out Qa8) (fun _ _ _ h => h) (Or.inl ⟨by rfl, ?_⟩) hHeld ?_ ?_
       rotate_left
       ·rintro w' ⟨s0, s1⟩
        go_simp
        with_reducible rfl
       rotate_left
       ·simp only [Act.put, List.setIfInBounds_toArray, List.set_cons_zero, List.set_cons_succ, Yi, Yj]
        rfl
       refine pure_ (i := 12) (N := some 66) (v := ?_) (a' := ?_) #[true, true, true, true, true, true, true, true, true, true, true, true, true, false, false, false] rfl rfl (any_of HT_.out Qa8) (fun _ _ _ h => h) (Or.inl ⟨by rfl, ?_⟩) ?_ ?_
       rotate_left
       ·intro w'
        go_simp
        with_reducible rfl
       rotate_left
       ·simp only [Act.put, List.setIfInBounds_toArray, List.set_cons_zero, List.set_cons_succ, Yi, Yj]
        rfl
       refine last_ (i := 13) (N := none) #[true, true, true, true, true, true, true, true, true, true, true, true, true, true, false, false] rfl rfl (one_of HT_.out Qa8) (by decide) (fun K hK => ?_)
       refine skip_ (w1 := ?_) (by rfl) rfl ?_ ?_
       rotate_left
       ·go_simp
        rfl
       refine hK.out _ _ ?_
       clear hK K
       refine pure_ (i := 14) (N := some 67) (v := ?_) (a' := ?_) #[true, true, true, true, true, true, true, true, true, true, true, true, true, true, true, false] rfl rfl (any_of HT_.out Qa8) (fun _ _ _ h => h) (Or.inl ⟨by rfl, ?_⟩) ?_ ?_
       rotate_left
       ·intro w'
        go_simp
        with_reducible rfl
       rotate_left
       ·simp only [Act.put, List.setIfInBounds_toArray, List.set_cons_zero, List.set_cons_succ, Yi, Yj]
        rfl
       refine last_ (i := 15) (N := none) #[true, true, true, true, true, true, true, true, true, true, true, true, true, true, true, true] rfl rfl (one_of HT_.out Qa8) (by decide) (fun K hK => ?_)
       refine skip_ (w1 := ?_) (by rfl) rfl ?_ ?_
       rotate_left
       ·go_simp
        rfl
       refine hK.out _ _ ?_
       clear hK K
       refine done_ (done_of HT_.out Qa8) ?_
       try go_wp2
       (try simp only [← hl3_3])
       (try rw [← add_plain go29 ji16.toNat])
       go_roundg k3
       case measure => have := HK1.out; have := HK2.out; have := HK3.out; omega
       case rel => exact ⟨(y291), (wrap64 (x5_3 + 1)), (wrap64 (x6_3 - 1)), Qa5, Qa5, H', ⟨by have := HK1.out; have := HK2.out; have := HK3.out; omega⟩, ⟨by (try simp only [hl3_3]); (with_reducible repeat (first | apply Kd.Zf | apply Kd.Ze | apply Kd.Zj)); exact HQ33.out⟩, ⟨by repeat (first | (with_reducible first | exact HB.out | apply Zb | apply Za | apply Zc | refine Zd ?_ GB29.out | refine Zd ?_ GB29.out) | exact HB.out)⟩⟩
def nats_Push.l0 : Nat → List Int → Int → Int → Int → Option (List Int)
 | 0, _, _, _, _ => none
 | k + 1, x0, x5, x11, x12 => if x12 < x11 then (if 0 ≤ x12 then (if x12 < (x0.length : Int) then (nats_Push.l0 k (x0.set (x12 : Int).toNat ((IntKind.u64.wrap ((IntKind.u64.wrap ((IntKind.u64.wrap (rd x0 x12)) * 10)) + x5)) % 4294967296)) ((IntKind.u64.wrap ((IntKind.u64.wrap ((IntKind.u64.wrap (rd x0 x12)) * 10)) + x5)) / 4294967296) x11 (wrap64 (x12 + 1))) else (none)) else (none)) else (if x5 > 0 then (if x0.length < 35184372088832 then (some (x0 ++ [(x5) % 4294967296])) else (none)) else (some x0))
def nats_Push.f (k : Nat) (l0 : List Int) (a1 : Int) : Option (List Int) := nats_Push.l0 k l0 (IntKind.u64.wrap (a1)) (l0.length : Int) 0
theorem nats_Push.mono_l : ∀ k, (∀ y0 y1 y2 y3, LeO (nats_Push.l0 k y0 y1 y2 y3) (nats_Push.l0 (k + 1) y0 y1 y2 y3))
 | 0 => fun _ _ _ _ r h => by simp [nats_Push.l0] at h
 | k + 1 => by
  have ih0 := nats_Push.mono_l k
  ·intro y0 y1 y2 y3
   unfold nats_Push.l0
   exact Qa6
theorem nats_Push.mono : ∀ a0 a1 k, LeO (nats_Push.f k a0 a1) (nats_Push.f (k + 1) a0 a1) := by
 intro a0 a1 k
 have ih0 := nats_Push.mono_l k
 unfold nats_Push.f
 exact Qa6
theorem nats_Push.calls (k : Nat) (P0_ : Nat → Prop) (u9000_ : Value) (l0 : List Int) (a1 : Int) (r : List Int) (w0 w : World) (hB : Below w0.heap.size w0 w) (ho0 : Kd.R (Kd.int .u32) 47 w w0.heap.size P0_ u9000_ l0) (h : nats_Push.f k l0 a1 = some r) :
  Calls Try.prog 87 #[u9000_, .int .u32 a1] w fun e w' => ∃ v0_ : Value, e = .returned (v0_) ∧ Kd.R (Kd.int .u32) 47 w' w0.heap.size (fun k_ => (P0_ k_ ∨ w.heap.size ≤ k_)) v0_ r ∧ Below w0.heap.size w0 w' ∧ Kept w w' (fun k_ => P0_ k_) := by
 have HO0 := Yt.mk (show Kd.R (Kd.int .u32) 47 w w0.heap.size (fun k_ => (P0_ k_ ∨ w.heap.size ≤ k_)) u9000_ l0 from Kd.Zv ho0 (fun k_ hk => (.inl hk)))
 have HK := Yt.mk (Kept.refl w (fun k_ => P0_ k_))
 have HW0 := Yt.mk hB.size
 have HB := Yt.mk hB
 clear hB
 unfold nats_Push.f at h
 have H := h
 clear h
 have H' := Yt.mk H
 clear H
 obtain ⟨Ao3, co3, eo3⟩ := Kd.Zx HO0.out
 subst eo3
 go_enter Try.func87, Try.ntmps87
 go_wp2
 go_loopg [5, 12] k (fun kq v5 v12 w' => ∃ (x0_1 : List Int) (x5_1 : Int) (x12_1 : Int), v5 = .int .u64 x5_1 ∧ v12 = .int .i64 x12_1 ∧ Yt (nats_Push.l0 kq x0_1 x5_1 (l0.length : Int) x12_1 = some r) ∧ Yt (kq ≤ k) ∧ Yt (Kd.R (Kd.int .u32) 47 w' w0.heap.size (fun k_ => (P0_ k_ ∨ w.heap.size ≤ k_)) (.slice Ao3 l0.length co3) x0_1) ∧ Yt (Kept w w' (fun k_ => P0_ k_)) ∧ Yt (Below w0.heap.size w0 w'))
 case atStart => exact ⟨(l0), (IntKind.u64.wrap (a1)), (0), Qa5, Qa5, H', ⟨Nat.le_refl _⟩, ⟨Qr1 HO0.out⟩, ⟨by repeat (first | (with_reducible first | exact HK.out | apply Kept.alloc | apply Kept.drewN | apply Kept.drew) | exact HK.out)⟩, ⟨Qa0⟩⟩
 case round =>
  clear H'
  try clear p2
  obtain ⟨x0_1, x5_1, x12_1, rfl, rfl, HA, HK1, HO_0, HK, HB⟩ := hrel
  have hl0_1 := (Kd.Zs HO_0.out).1
  rw [hl0_1] at HO_0
  (try simp only [hl0_1])
  cases gk with
  | zero => exact absurd HA.out (by simp [nats_Push.l0])
  | succ k1 =>
   have H := HA.out
   clear HA
   simp only [nats_Push.l0] at H
   by_cases c4 : x12_1 < (l0.length : Int)
   rotate_left
   ·rw [if_neg c4] at H
    have c4b0 : decide (x12_1 < (l0.length : Int)) = false := decide_eq_false c4
    (try (have c4b0hl0_1 := c4b0; rw [hl0_1] at c4b0hl0_1))
    clear c4
    by_cases c10 : x5_1 > 0
    rotate_left
    ·rw [if_neg c10] at H
     have c10b0 : decide (0 < x5_1) = false := decide_eq_false c10
     clear c10
     obtain rfl := Option.some.inj H
     go_wp2
     go_ret
     exact ⟨_, Qa4, Qr1 HO_0.out, Qa0, by repeat (first | (with_reducible first | exact HK.out | apply Kept.alloc | apply Kept.drewN | apply Kept.drew) | exact HK.out)⟩
    rw [if_pos c10] at H
    have c10b0 : decide (0 < x5_1) = true := decide_eq_true c10
    clear c10
    by_cases c11 : x0_1.length < 35184372088832
    rotate_left
    ·rw [if_neg c11] at H
     exact absurd H (by simp)
    rw [if_pos c11] at H
    have LMc11 := Yt.mk c11
    clear c11
    obtain ⟨y296, hy296⟩ : ∃ y_ : List Int, y_ = (x0_1 ++ [(x5_1) % 4294967296]) := ⟨_, rfl⟩
    replace H : (some y296) = some r := Qh hy296 H
    have Ny296 := Yt.mk hy296
    clear hy296
    obtain rfl := Option.some.inj H
    go_wp2_with (first | ((with_reducible refine gate_builtin (b := .append) (xs := #[.tmp 33, .tmp 36]) rfl ?_); at_builtin; refine Kd.R_append (Kd.int .u32) (w0 := w0) w0.heap.size rfl (.tmp 33) (.tmp 36) 22 47 (.int .u32 0) 4 rfl Try.underlying22 info47 rfl (by decide) (by omega) (.slice Ao3 x0_1.length co3) x0_1 ((x5_1) % 4294967296) [.int .u32 ((x5_1) % 4294967296)] (fun k_ => (P0_ k_ ∨ w.heap.size ≤ k_)) (fun _ => False) rfl rfl ?aP (fun _ hk => hk.elim) ?aF ?aO ?aB ?aS ?aL ?_; (case aP => exact rfl); (case aB => exact (Qa0)); (case aF => exact (fun k_ hk => (.inr (Nat.le_trans (by first | exact HK.out.1 | exact (show Kept w _ (fun k_ => P0_ k_) from by repeat (first | (with_reducible first | exact HK.out | apply Kept.alloc | apply Kept.drewN | apply Kept.drew) | exact HK.out)).1) hk)))); (case aO => exact (Qr1 HO_0.out)); (case aS => exact (Zk (Qa0))); (case aL => have := LMc11.out; omega); intro v297 w12 ho hb hg hat; rw [← Ny296.out] at ho; replace HB := Yt.mk (hb); replace HK := Yt.mk (Kept.of_grown (S := (fun k_ => P0_ k_)) hg (by repeat (first | (with_reducible first | exact HK.out | apply Kept.alloc | apply Kept.drewN | apply Kept.drew) | exact HK.out)) (fun k_ e_ => (HO_0.out.1 k_ e_))); have HO298 := Yt.mk (ho); clear HO_0; clear ho hb hg hat))
    go_ret
    exact ⟨_, Qa4, Qr1 HO298.out, Qa0, by repeat (first | (with_reducible first | exact HK.out | apply Kept.alloc | apply Kept.drewN | apply Kept.drew) | exact HK.out)⟩
   rw [if_pos c4] at H
   have c4b0 : decide (x12_1 < (l0.length : Int)) = true := decide_eq_true c4
   (try (have c4b0hl0_1 := c4b0; rw [hl0_1] at c4b0hl0_1))
   clear c4
   by_cases c5 : 0 ≤ x12_1
   rotate_left
   ·rw [if_neg c5] at H
    exact absurd H (by simp)
   rw [if_pos c5] at H
   have c5b0 : decide (0 ≤ x12_1) = true := decide_eq_true c5
   clear c5
   by_cases c6 : x12_1 < (x0_1.length : Int)
   rotate_left
   ·rw [if_neg c6] at H
    exact absurd H (by simp)
   rw [if_pos c6] at H
   have c6b0 : decide (x12_1 < (x0_1.length : Int)) = true := decide_eq_true c6
   (try (have c6b0hl0_1 := c6b0; rw [hl0_1] at c6b0hl0_1))
   clear c6
   obtain ⟨y295, hy295⟩ : ∃ y_ : List Int, y_ = (x0_1.set (x12_1 : Int).toNat ((IntKind.u64.wrap ((IntKind.u64.wrap ((IntKind.u64.wrap (rd x0_1 x12_1)) * 10)) + x5_1)) % 4294967296)) := ⟨_, rfl⟩
   replace H : (nats_Push.l0 k1 y295 ((IntKind.u64.wrap ((IntKind.u64.wrap ((IntKind.u64.wrap (rd x0_1 x12_1)) * 10)) + x5_1)) / 4294967296) (l0.length : Int) (wrap64 (x12_1 + 1))) = some r := Qh hy295 H
   have Ny295 := Yt.mk hy295
   clear hy295
   have H' := Yt.mk H
   clear H
   have p294 : 0 ≤ (x12_1 : Int) := Qd
   have q294 : x12_1 < (x0_1.length : Int) := Qd
   obtain ⟨ad294, e294, hx294_0⟩ := Kd.at_int (Kd.Zs HO_0.out).2.2 x12_1 p294 q294
   cases e294
   replace p294 := eq_true p294
   replace q294 := eq_true q294
   have p7 : 0 ≤ (x12_1 : Int) := Qd
   have q7 : (x12_1 : Int) < ((x0_1.length : Int) : Int) := Qd
   obtain ⟨go7, co7, eo7, gb7, gl7, cl7, HG7⟩ := Kd.R_form HO_0.out (by omega)
   (first | cases eo7 | (injection eo7 with ea_ en_ ec_; (first | subst ea_ | (injection ea_ with ea_; subst ea_)); subst ec_; clear en_))
   have GB7 := Yt.mk gb7
   have GG7 := Yt.mk HG7
   clear gb7 gl7 HG7
   have HMgo7 := Yt.mk (show (P0_ go7 ∨ w.heap.size ≤ go7) from (HO_0.out.1 _ rfl))
   (first | simp only [add_plain] at hx294_0 | skip)
   obtain ⟨hx7_0, hf7_0⟩ := Kd.R_celln 0 HO_0.out (x12_1 : Int) p7 q7
   replace p7 := eq_true p7
   replace q7 := eq_true q7
   obtain ⟨hy8_, hz8_⟩ := Kd.R_celln 0 HO_0.out (x12_1 : Int) (Qd) (Qd)
   have HP8 := Kd.R_putg HO_0.out (x12_1 : Int) ((IntKind.u64.wrap ((IntKind.u64.wrap ((IntKind.u64.wrap (rd x0_1 x12_1)) * 10)) + x5_1)) % 4294967296)
   go_wp2_with (first | ((with_reducible refine gate_store (t := 47) (p := 29) rfl ?_); refine store_event (t := 47) (p := 29) (v := ?vo_w9) (w1 := (wr.setCell ⟨go7, (x12_1 : Int).toNat, none⟩ (.int .u32 ((IntKind.u64.wrap ((IntKind.u64.wrap ((IntKind.u64.wrap (rd x0_1 x12_1)) * 10)) + x5_1)) % 4294967296)))) ?hg ?ho ?hn ?hr ?_; (case ho => rfl); (case hg => rfl); (case hn => rfl); (case hr => exact Qa9); intro w9 hw; have hg : wr.grownBy w9 (some go7) := (by rw [hw]; exact HP8.2); have hp_ : Kd.R (Kd.int .u32) 47 w9 w0.heap.size (fun k_ => (P0_ k_ ∨ w.heap.size ≤ k_)) (.slice (some ⟨go7, 0, none⟩) x0_1.length co3) y295 := (by rw [hw, Ny295.out]; exact HP8.1); clear HP8; replace HB := Yt.mk ((by rw [hw]; exact Zd (HB.out) GB7.out : Below w0.heap.size w0 w9)); replace HK := Yt.mk (Kept.of_grown (S := (fun k_ => P0_ k_)) hg (by repeat (first | (with_reducible first | exact HK.out | apply Kept.alloc | apply Kept.drewN | apply Kept.drew) | exact HK.out)) (fun k_ e_ => (HO_0.out.1 k_ e_))); replace HO_0 := Yt.mk (hp_); clear hg hw hp_))
   (try simp only [← hl0_1])
   go_roundg k1
   case measure => have := HK1.out; omega
   case rel => exact ⟨(y295), ((IntKind.u64.wrap ((IntKind.u64.wrap ((IntKind.u64.wrap (rd x0_1 x12_1)) * 10)) + x5_1)) / 4294967296), (wrap64 (x12_1 + 1)), Qa5, Qa5, H', ⟨by have := HK1.out; omega⟩, ⟨by (try simp only [hl0_1]); (with_reducible repeat (first | apply Kd.Zf | apply Kd.Ze | apply Kd.Zj)); exact HO_0.out⟩, ⟨by repeat (first | (with_reducible first | exact HK.out | apply Kept.alloc | apply Kept.drewN | apply Kept.drew) | exact HK.out)⟩, ⟨Qa0⟩⟩
mutual
def nats_Mul.l0 : Nat → List Int → List Int → List Int → Int → Int → Option (List Int)
 | 0, _, _, _, _, _ => none
 | k + 1, x1, x5, x22, x23, x24 => if x24 < x23 then (if 0 ≤ x24 then (if x24 < (x22.length : Int) then (nats_Mul.l1 k x1 x5 x24 (rd x22 x24) 0 x22 x23 x24 x1 (x1.length : Int) 0) else (none)) else (none)) else ((nats_cuto.f k x5).bind fun t128 => (some t128))
def nats_Mul.l1 : Nat → List Int → List Int → Int → Int → Int → List Int → Int → Int → List Int → Int → Int → Option (List Int)
 | 0, _, _, _, _, _, _, _, _, _, _, _ => none
 | k + 1, x1, x5, x6, x7, x8, x22, x23, x24, x29, x30, x31 => if x31 < x30 then (if 0 ≤ x31 then (if x31 < (x29.length : Int) then (if 0 ≤ (wrap64 (x6 + x31)) then (if (wrap64 (x6 + x31)) < (x5.length : Int) then (nats_Mul.l1 k x1 (x5.set ((wrap64 (x6 + x31)) : Int).toNat ((IntKind.u64.wrap ((IntKind.u64.wrap ((IntKind.u64.wrap ((IntKind.u64.wrap (x7)) * (IntKind.u64.wrap (rd x29 x31)))) + (IntKind.u64.wrap (rd x5 (wrap64 (x6 + x31)))))) + x8)) % 4294967296)) x6 x7 ((IntKind.u64.wrap ((IntKind.u64.wrap ((IntKind.u64.wrap ((IntKind.u64.wrap (x7)) * (IntKind.u64.wrap (rd x29 x31)))) + (IntKind.u64.wrap (rd x5 (wrap64 (x6 + x31)))))) + x8)) / 4294967296) x22 x23 x24 x29 x30 (wrap64 (x31 + 1))) else (none)) else (none)) else (none)) else (none)) else (if 0 ≤ (wrap64 (x6 + (x1.length : Int))) then (if (wrap64 (x6 + (x1.length : Int))) < (x5.length : Int) then (nats_Mul.l0 k x1 (x5.set ((wrap64 (x6 + (x1.length : Int))) : Int).toNat ((x8) % 4294967296)) x22 x23 (wrap64 (x24 + 1))) else (none)) else (none))
end
def nats_Mul.f (k : Nat) (l0 : List Int) (l1 : List Int) : Option (List Int) := (nats_cut.f k l0).bind fun t119 => ((nats_cut.f k l1).bind fun t122 => (if 0 ≤ (wrap64 ((t119.length : Int) + (t122.length : Int))) then (if (wrap64 ((t119.length : Int) + (t122.length : Int)) : Int).toNat ≤ 70368744177664 then (nats_Mul.l0 k t122 (List.replicate (wrap64 ((t119.length : Int) + (t122.length : Int)) : Int).toNat 0) t119 (t119.length : Int) 0) else (none)) else (none)))
theorem nats_Mul.mono_l : ∀ k, (∀ y0 y1 y2 y3 y4, LeO (nats_Mul.l0 k y0 y1 y2 y3 y4) (nats_Mul.l0 (k + 1) y0 y1 y2 y3 y4)) ∧ (∀ y0 y1 y2 y3 y4 y5 y6 y7 y8 y9 y10, LeO (nats_Mul.l1 k y0 y1 y2 y3 y4 y5 y6 y7 y8 y9 y10) (nats_Mul.l1 (k + 1) y0 y1 y2 y3 y4 y5 y6 y7 y8 y9 y10))
 | 0 => ⟨fun _ _ _ _ _ r h => by simp [nats_Mul.l0] at h, fun _ _ _ _ _ _ _ _ _ _ _ r h => by simp [nats_Mul.l1] at h⟩
 | k + 1 => by
  obtain ⟨ih0, ih1⟩ := nats_Mul.mono_l k
  refine ⟨?_, ?_⟩
  ·intro y0 y1 y2 y3 y4
   unfold nats_Mul.l0
   have m0 := @nats_cut.mono
   have m1 := @nats_cuto.mono
   exact Qa6
  ·intro y0 y1 y2 y3 y4 y5 y6 y7 y8 y9 y10
   unfold nats_Mul.l1
   have m0 := @nats_cut.mono
   have m1 := @nats_cuto.mono
   exact Qa6
theorem nats_Mul.mono : ∀ a0 a1 k, LeO (nats_Mul.f k a0 a1) (nats_Mul.f (k + 1) a0 a1) := by
 intro a0 a1 k
 obtain ⟨ih0, ih1⟩ := nats_Mul.mono_l k
 unfold nats_Mul.f
 have m0 := @nats_cut.mono
 have m1 := @nats_cuto.mono
 exact Qa6
theorem nats_Mul.calls (k : Nat) (A0 : Option Addr) (c0 : Nat) (l0 : List Int) (A1 : Option Addr) (c1 : Nat) (l1 : List Int) (r : List Int) (w : World) (hr0 : Kd.C (Kd.int .u32) w A0 l0.length l0) (hc0 : l0.length ≤ c0) (hr1 : Kd.C (Kd.int .u32) w A1 l1.length l1) (hc1 : l1.length ≤ c1) (h : nats_Mul.f k l0 l1 = some r) :
  Calls Try.prog 81 #[.slice A0 l0.length c0, .slice A1 l1.length c1] w fun e w' => ∃ v0_ : Value, e = .returned (v0_) ∧ Kd.R (Kd.int .u32) 47 w' w.heap.size (fun _ => True) v0_ r ∧ Below w.heap.size w w' := by
 have HR0 := Yt.mk hr0
 have HC0 := Yt.mk hc0
 clear hr0 hc0
 have HR1 := Yt.mk hr1
 have HC1 := Yt.mk hc1
 clear hr1 hc1
 have HB := Yt.mk (Below.refl w.heap.size w)
 unfold nats_Mul.f at h
 have H := h
 clear h
 replace H := Option.bind_eq_some_iff.mp H
 obtain ⟨t119, A30, H⟩ := H
 try dsimp only at H
 have A3 := Yt.mk A30
 clear A30
 replace H := Option.bind_eq_some_iff.mp H
 obtain ⟨t122, A40, H⟩ := H
 try dsimp only at H
 have A4 := Yt.mk A40
 clear A40
 obtain ⟨ji5, hji5⟩ : ∃ j_ : Int, (wrap64 ((t119.length : Int) + (t122.length : Int))) = j_ := ⟨_, rfl⟩
 replace H : (if 0 ≤ (ji5) then (if (ji5 : Int).toNat ≤ 70368744177664 then (nats_Mul.l0 k t122 (List.replicate (ji5 : Int).toNat 0) t119 (t119.length : Int) 0) else (none)) else (none)) = some r := by first | (rw [hji5] at H; exact H) | (simp only [hji5] at H ⊢; exact H)
 (try rw [hji5] at A3)
 (try rw [hji5] at A4)
 have hji5w : (IntKind.i64.wrap ((t119.length : Int) + (t122.length : Int))) = ji5 := (Yi _).trans hji5
 by_cases c6 : 0 ≤ (ji5)
 rotate_left
 ·rw [if_neg c6] at H
  exact absurd H (by simp)
 rw [if_pos c6] at H
 have c6b0 := eq_true c6
 have c6b1 : decide (0 ≤ (ji5)) = true := decide_eq_true c6
 clear c6
 by_cases c7 : (ji5 : Int).toNat ≤ 70368744177664
 rotate_left
 ·rw [if_neg c7] at H
  exact absurd H (by simp)
 rw [if_pos c7] at H
 have c7b0 := eq_true c7
 have c7b1 : decide ((ji5 : Int).toNat ≤ 70368744177664) = true := decide_eq_true c7
 clear c7
 obtain ⟨y125, hy125⟩ : ∃ y_ : List Int, y_ = (List.replicate (ji5 : Int).toNat 0) := ⟨_, rfl⟩
 replace H : (nats_Mul.l0 k t122 y125 t119 (t119.length : Int) 0) = some r := Qh hy125 H
 have Ny125 := Yt.mk hy125
 clear hy125
 have H' := Yt.mk H
 clear H
 go_enter Try.func81, Try.ntmps81
 go_wp2_with (first | ((with_reducible refine Zr (f := 108) rfl ?_); refine Yg (some 13) rfl rfl Try.func108 Qa8 rfl #[.slice A0 l0.length c0] rfl Qa2 ?_; (with_reducible refine (nats_cut.calls k (fun k_ => k_ < w.heap.size) _ _ l0 t119 _ ?side1 A3.out).mono ?_); (case side1 => exact Kd.V_mk HC0.out (Kd.F_below (Kd.C_F (Kd.heap_int .u32) HR0.out) (Qa0))); rintro e w8 ⟨v120, rfl, ho0, hb⟩; refine ⟨_, rfl, ?_⟩; have HO121 := Yt.mk (Kd.V_lower (Kd.Yp (ok' := fun k_ => True) ho0 (fun k_ hk_ => trivial)) (Zk (Qa0))); replace HB := Yt.mk (Zm (Qa0) hb); (try clear hb); (try clear ho0)) | ((with_reducible refine Zr (f := 108) rfl ?_); refine Yg (some 15) rfl rfl Try.func108 Qa8 rfl #[.slice A1 l1.length c1] rfl Qa2 ?_; (with_reducible refine (nats_cut.calls k (fun k_ => k_ < w.heap.size) _ _ l1 t122 _ ?side1 A4.out).mono ?_); (case side1 => exact Kd.V_mk HC1.out (Kd.F_below (Kd.C_F (Kd.heap_int .u32) HR1.out) (Qa0))); rintro e w9 ⟨v123, rfl, ho0, hb⟩; refine ⟨_, rfl, ?_⟩; replace HO121 := Yt.mk (Kd.Yr (Qr7 HO121.out) hb); have HO124 := Yt.mk (Kd.V_lower (Kd.Yp (ok' := fun k_ => True) ho0 (fun k_ hk_ => trivial)) (Zk (Qa0))); replace HB := Yt.mk (Zm (Qa0) hb); (try clear hb); (try clear ho0); obtain ⟨Ao10, co10, eo10⟩ := Kd.V_slice HO121.out; subst eo10; obtain ⟨Ao11, co11, eo11⟩ := Kd.V_slice HO124.out; subst eo11) | ((with_reducible refine Yk (N := 21) rfl ?_); refine Kd.R_make (Kd.int .u32) _ 47 rfl (N := 21) rfl 22 _ _ rfl ji5 rfl rfl Try.underlying22 (.int .u32 0) 4 info47 rfl (by decide) (by omega) 0 (ok := fun _ => True) (okp := fun _ => True) rfl (fun _ hk => hk) trivial (Qd) (Nat.le_trans (Nat.mul_le_mul_right _ (Qd : ji5.toNat ≤ 70368744177664)) (by omega)) (Below.refl _ _) (Nat.le_refl _) ?_; intro v126 w12 ho13 hb hg_ hnew_; clear hg_ hnew_; (first | rw [← Ny125.out] at ho13 | (simp only [Int.reduceToNat] at ho13; rw [← Ny125.out] at ho13)); replace HO121 := Yt.mk (Kd.V_elder' (Qr7 HO121.out) (Kd.Zw ho13) hb); replace HO124 := Yt.mk (Kd.V_elder' (Qr7 HO124.out) (Kd.Zw ho13) hb); have HO127 := Yt.mk (Kd.Yb ho13 (Zk (Qa0))); replace HB := Yt.mk (Zm (Qa0) hb); clear hb ho13))
 go_loopg [24] k (fun kq v24 w' => ∃ (x5_1 : List Int) (x24_1 : Int), v24 = .int .i64 x24_1 ∧ Yt (nats_Mul.l0 kq t122 x5_1 t119 (t119.length : Int) x24_1 = some r) ∧ Yt (kq ≤ k) ∧ Yt (Kd.V (Kd.int .u32) 47 w' w.heap.size (fun k_ => some k_ ≠ (v126 : Value).ownBlock) (.slice Ao11 t122.length co11) t122) ∧ Yt (Kd.R (Kd.int .u32) 47 w' w.heap.size (fun _ => True) v126 x5_1) ∧ Yt (Kd.V (Kd.int .u32) 47 w' w.heap.size (fun k_ => some k_ ≠ (v126 : Value).ownBlock) (.slice Ao10 t119.length co10) t119) ∧ Yt (Below w.heap.size w w'))
 case atStart => exact ⟨(y125), (0), Qa5, H', ⟨Nat.le_refl _⟩, ⟨by (with_reducible repeat (first | apply Kd.Zz | apply Kd.Zy | apply Kd.Ye)); exact Kd.Yp HO124.out (fun _ hk => hk.2)⟩, ⟨Qr1 HO127.out⟩, ⟨by (with_reducible repeat (first | apply Kd.Zz | apply Kd.Zy | apply Kd.Ye)); exact Kd.Yp HO121.out (fun _ hk => hk.2)⟩, ⟨Qa0⟩⟩
 case round =>
  clear H'
  try clear c1; try clear p2; try clear c6; try clear c6b0; try clear c6b1; try clear p6; try clear c7; try clear c7b0; try clear c7b1; try clear c8; try clear c10
  obtain ⟨x5_1, x24_1, rfl, HA, HK1, HO_1, HO_5, HO_22, HB⟩ := hrel
  cases gk with
  | zero => exact absurd HA.out (by simp [nats_Mul.l0])
  | succ k1 =>
   have H := HA.out
   clear HA
   simp only [nats_Mul.l0] at H
   by_cases c14 : x24_1 < (t119.length : Int)
   rotate_left
   ·rw [if_neg c14] at H
    have c14b0 : decide (x24_1 < (t119.length : Int)) = false := decide_eq_false c14
    clear c14
    replace H := Option.bind_eq_some_iff.mp H
    obtain ⟨t128, A330, H⟩ := H
    replace H : (some t128) = some r := H
    have A33 := Yt.mk A330
    clear A330
    obtain rfl := Option.some.inj H
    obtain ⟨Ao34, co34, eo34⟩ := Kd.Zx HO_5.out
    subst eo34
    go_wp2_with (first | ((with_reducible refine Zr (f := 108) rfl ?_); refine Yg (some 71) rfl rfl Try.func108 Qa8 rfl #[.slice Ao34 x5_1.length co34] rfl Qa2 ?_; (with_reducible refine (nats_cuto.calls k1 (fun k_ => some k_ = (.slice Ao34 x5_1.length co34 : Value).ownBlock) (.slice Ao34 x5_1.length co34) x5_1 t128 w _ ?side1 ?side2 A33.out).mono ?_); (case side1 => repeat (first | (with_reducible first | exact HB.out | apply Zb | apply Za | apply Zc) | exact HB.out)); (case side2 => exact Kd.R_tight rfl HO_5.out); rintro e w35 ⟨v129, rfl, ho0, hb, hkp⟩; refine ⟨_, rfl, ?_⟩; replace HO_1 := Yt.mk (Kd.Yp (ok' := fun k_ => some k_ ≠ (v129 : Value).ownBlock) (Kd.V_keptB (HO_1.out) hkp (fun k_ hk_ hs_ => (hk_) hs_)) (fun k_ hk_ => fun e_ => Or.elim (ho0.1 k_ e_.symm) (fun hs_ => hk_.2.1 hs_) (fun hn_ => Nat.not_le.2 hk_.2.2 hn_))); replace HO_22 := Yt.mk (Kd.Yp (ok' := fun k_ => some k_ ≠ (v129 : Value).ownBlock) (Kd.V_keptB (HO_22.out) hkp (fun k_ hk_ hs_ => (hk_) hs_)) (fun k_ hk_ => fun e_ => Or.elim (ho0.1 k_ e_.symm) (fun hs_ => hk_.2.1 hs_) (fun hn_ => Nat.not_le.2 hk_.2.2 hn_))); have HO130 := Yt.mk (Kd.Zv (ok' := fun k_ => True) ho0 (fun k_ hk_ => trivial)); replace HB := Yt.mk (hb); clear HO_5; (try clear hb); (try clear hkp); (try clear ho0)))
    go_ret
    exact ⟨_, by first | rfl | (simp [Zp, Zo] <;> rfl) | (simp only [← hji5]; first | rfl | (simp [Zp, Zo] <;> rfl)) | (simp [*, Zp, Zo] <;> rfl), Qr1 HO130.out, Qa0⟩
   rw [if_pos c14] at H
   have c14b0 : decide (x24_1 < (t119.length : Int)) = true := decide_eq_true c14
   clear c14
   by_cases c15 : 0 ≤ x24_1
   rotate_left
   ·rw [if_neg c15] at H
    exact absurd H (by simp)
   rw [if_pos c15] at H
   have c15b0 : decide (0 ≤ x24_1) = true := decide_eq_true c15
   clear c15
   by_cases c16 : x24_1 < (t119.length : Int)
   rotate_left
   ·rw [if_neg c16] at H
    exact absurd H (by simp)
   rw [if_pos c16] at H
   have c16b0 : decide (x24_1 < (t119.length : Int)) = true := decide_eq_true c16
   clear c16
   have H' := Yt.mk H
   clear H
   have p131 : 0 ≤ (x24_1 : Int) := Qd
   have q131 : x24_1 < (t119.length : Int) := Qd
   obtain ⟨ad131, e131, hx131_0⟩ := Kd.at_int (Kd.Yn HO_22.out).2.2 x24_1 p131 q131
   cases e131
   replace p131 := eq_true p131
   replace q131 := eq_true q131
   go_wp2
   go_loopg [8, 31] k1 (fun kq v8 v31 w' => ∃ (x5_2 : List Int) (x8_2 : Int) (x31_2 : Int), v8 = .int .u64 x8_2 ∧ v31 = .int .i64 x31_2 ∧ Yt (nats_Mul.l1 kq t122 x5_2 x24_1 (rd t119 x24_1) x8_2 t119 (t119.length : Int) x24_1 t122 (t122.length : Int) x31_2 = some r) ∧ Yt (kq ≤ k1) ∧ Yt (Kd.V (Kd.int .u32) 47 w' w.heap.size (fun k_ => some k_ ≠ (v126 : Value).ownBlock) (.slice Ao11 t122.length co11) t122) ∧ Yt (Kd.R (Kd.int .u32) 47 w' w.heap.size (fun _ => True) v126 x5_2) ∧ Yt (Kd.V (Kd.int .u32) 47 w' w.heap.size (fun k_ => some k_ ≠ (v126 : Value).ownBlock) (.slice (some ad131) t119.length co10) t119) ∧ Yt (Kd.V (Kd.int .u32) 47 w' w.heap.size (fun k_ => some k_ ≠ (v126 : Value).ownBlock) (.slice Ao11 t122.length co11) t122) ∧ Yt (Below w.heap.size w w'))
   case atStart => exact ⟨(x5_1), (0), (0), Qa5, Qa5, H', ⟨Nat.le_refl _⟩, ⟨Qr7 HO_1.out⟩, ⟨Qr1 HO_5.out⟩, ⟨Qr7 HO_22.out⟩, ⟨Qr7 HO_1.out⟩, ⟨Qa0⟩⟩
   case round =>
    clear H'
    try clear c1; try clear p1; try clear q1; try clear hx1; try clear p2; try clear c6; try clear c6b0; try clear c6b1; try clear p6; try clear c7; try clear c7b0; try clear c7b1; try clear c8; try clear c10; try clear p13; try clear q13; try clear hx13; try clear c14; try clear c14b0; try clear c15; try clear c15b0; try clear c16; try clear c16b0; try clear hx131_0; try clear p131; try clear p2; try clear p6; try clear q131
    obtain ⟨x5_2, x8_2, x31_2, rfl, rfl, HA, HK2, HO_1, HO_5, HO_22, HO_29, HB⟩ := hrel
    cases gk with
    | zero => exact absurd HA.out (by simp [nats_Mul.l1])
    | succ k2 =>
     have H := HA.out
     clear HA
     simp only [nats_Mul.l1] at H
     by_cases c17 : x31_2 < (t122.length : Int)
     rotate_left
     ·rw [if_neg c17] at H
      have c17b0 : decide (x31_2 < (t122.length : Int)) = false := decide_eq_false c17
      clear c17
      obtain ⟨ji27, hji27⟩ : ∃ j_ : Int, (wrap64 (x24_1 + (t122.length : Int))) = j_ := ⟨_, rfl⟩
      replace H : (if 0 ≤ (ji27) then (if (ji27) < (x5_2.length : Int) then (nats_Mul.l0 k2 t122 (x5_2.set ((ji27) : Int).toNat ((x8_2) % 4294967296)) t119 (t119.length : Int) (wrap64 (x24_1 + 1))) else (none)) else (none)) = some r := by first | (rw [hji27] at H; exact H) | (simp only [hji27] at H ⊢; exact H)
      have hji27w : (IntKind.i64.wrap (x24_1 + (t122.length : Int))) = ji27 := (Yi _).trans hji27
      by_cases c28 : 0 ≤ (ji27)
      rotate_left
      ·rw [if_neg c28] at H
       exact absurd H (by simp)
      rw [if_pos c28] at H
      have c28b0 : decide (0 ≤ (ji27)) = true := decide_eq_true c28
      clear c28
      by_cases c29 : (ji27) < (x5_2.length : Int)
      rotate_left
      ·rw [if_neg c29] at H
       exact absurd H (by simp)
      rw [if_pos c29] at H
      have c29b0 : decide ((ji27) < (x5_2.length : Int)) = true := decide_eq_true c29
      clear c29
      obtain ⟨y135, hy135⟩ : ∃ y_ : List Int, y_ = (x5_2.set ((ji27) : Int).toNat ((x8_2) % 4294967296)) := ⟨_, rfl⟩
      replace H : (nats_Mul.l0 k2 t122 y135 t119 (t119.length : Int) (wrap64 (x24_1 + 1))) = some r := Qh hy135 H
      have Ny135 := Yt.mk hy135
      clear hy135
      have H' := Yt.mk H
      clear H
      have p30 : 0 ≤ ((ji27) : Int) := Qd
      have q30 : ((ji27) : Int) < ((x5_2.length : Int) : Int) := Qd
      obtain ⟨go30, co30, eo30, gb30, gl30, cl30, HG30⟩ := Kd.R_form HO_5.out (by omega)
      (first | cases eo30 | (injection eo30 with ea_ en_ ec_; (first | subst ea_ | (injection ea_ with ea_; subst ea_)); subst ec_; clear en_))
      have GB30 := Yt.mk gb30
      have GG30 := Yt.mk HG30
      clear gb30 gl30 HG30
      obtain ⟨hx30_0, hf30_0⟩ := Kd.R_celln 0 HO_5.out ((ji27) : Int) p30 q30
      replace p30 := eq_true p30
      replace q30 := eq_true q30
      obtain ⟨hy31_, hz31_⟩ := Kd.R_celln 0 HO_5.out ((ji27) : Int) (Qd) (Qd)
      have HP31 := Kd.R_putg HO_5.out ((ji27) : Int) ((x8_2) % 4294967296)
      go_wp2_with (first | ((with_reducible refine gate_store (t := 47) (p := 68) rfl ?_); refine store_event (t := 47) (p := 68) (v := ?vo_w32) (w1 := (wr.setCell ⟨go30, ((ji27) : Int).toNat, none⟩ (.int .u32 ((x8_2) % 4294967296)))) ?hg ?ho ?hn ?hr ?_; (case ho => rfl); (case hg => rfl); (case hn => rfl); (case hr => exact Qa9); intro w32 hw; have hg : wr.grownBy w32 (some go30) := (by rw [hw]; exact HP31.2); have hp_ : Kd.R (Kd.int .u32) 47 w32 w.heap.size (fun _ => True) (.slice (some ⟨go30, 0, none⟩) x5_2.length co30) y135 := (by rw [hw, Ny135.out]; exact HP31.1); clear HP31; replace HO_1 := Yt.mk (Kd.V_afterv (v := (.slice (some ⟨go30, 0, none⟩) x5_2.length co30)) (v1 := (.slice (some ⟨go30, 0, none⟩) x5_2.length co30)) (ok := (fun _ => True)) (by (with_reducible repeat (first | apply Kd.Zz | apply Kd.Zy | apply Kd.Ye)); exact Kd.Yp HO_1.out (fun _ hk => ⟨trivial, hk⟩)) hg (.inl rfl)); replace HO_5 := Yt.mk (hp_); replace HO_22 := Yt.mk (Kd.V_afterv (v := (.slice (some ⟨go30, 0, none⟩) x5_2.length co30)) (v1 := (.slice (some ⟨go30, 0, none⟩) x5_2.length co30)) (ok := (fun _ => True)) (by (with_reducible repeat (first | apply Kd.Zz | apply Kd.Zy | apply Kd.Ye)); exact Kd.Yp HO_22.out (fun _ hk => ⟨trivial, hk⟩)) hg (.inl rfl)); replace HO_29 := Yt.mk (Kd.V_afterv (v := (.slice (some ⟨go30, 0, none⟩) x5_2.length co30)) (v1 := (.slice (some ⟨go30, 0, none⟩) x5_2.length co30)) (ok := (fun _ => True)) (by (with_reducible repeat (first | apply Kd.Zz | apply Kd.Zy | apply Kd.Ye)); exact Kd.Yp HO_29.out (fun _ hk => ⟨trivial, hk⟩)) hg (.inl rfl)); replace HB := Yt.mk ((by rw [hw]; exact Zd (HB.out) GB30.out : Below w.heap.size w w32)); clear hg hw hp_))
      go_roundg k2
      case measure => have := HK1.out; have := HK2.out; omega
      case rel => exact ⟨(y135), (wrap64 (x24_1 + 1)), Qa5, H', ⟨by have := HK1.out; have := HK2.out; omega⟩, ⟨by (with_reducible repeat (first | apply Kd.Zz | apply Kd.Zy | apply Kd.Ye)); exact Kd.Yp HO_1.out (fun _ hk => hk.2)⟩, ⟨Qr1 HO_5.out⟩, ⟨by (with_reducible repeat (first | apply Kd.Zz | apply Kd.Zy | apply Kd.Ye)); exact Kd.Yp HO_22.out (fun _ hk => hk.2)⟩, ⟨Qa0⟩⟩
     rw [if_pos c17] at H
     have c17b0 : decide (x31_2 < (t122.length : Int)) = true := decide_eq_true c17
     clear c17
     by_cases c18 : 0 ≤ x31_2
     rotate_left
     ·rw [if_neg c18] at H
      exact absurd H (by simp)
     rw [if_pos c18] at H
     have c18b0 : decide (0 ≤ x31_2) = true := decide_eq_true c18
     clear c18
     by_cases c19 : x31_2 < (t122.length : Int)
     rotate_left
     ·rw [if_neg c19] at H
      exact absurd H (by simp)
     rw [if_pos c19] at H
     have c19b0 : decide (x31_2 < (t122.length : Int)) = true := decide_eq_true c19
     clear c19
     obtain ⟨ji20, hji20⟩ : ∃ j_ : Int, (wrap64 (x24_1 + x31_2)) = j_ := ⟨_, rfl⟩
     replace H : (if 0 ≤ (ji20) then (if (ji20) < (x5_2.length : Int) then (nats_Mul.l1 k2 t122 (x5_2.set ((ji20) : Int).toNat ((IntKind.u64.wrap ((IntKind.u64.wrap ((IntKind.u64.wrap ((IntKind.u64.wrap ((rd t119 x24_1))) * (IntKind.u64.wrap (rd t122 x31_2)))) + (IntKind.u64.wrap (rd x5_2 (ji20))))) + x8_2)) % 4294967296)) x24_1 (rd t119 x24_1) ((IntKind.u64.wrap ((IntKind.u64.wrap ((IntKind.u64.wrap ((IntKind.u64.wrap ((rd t119 x24_1))) * (IntKind.u64.wrap (rd t122 x31_2)))) + (IntKind.u64.wrap (rd x5_2 (ji20))))) + x8_2)) / 4294967296) t119 (t119.length : Int) x24_1 t122 (t122.length : Int) (wrap64 (x31_2 + 1))) else (none)) else (none)) = some r := by first | (rw [hji20] at H; exact H) | (simp only [hji20] at H ⊢; exact H)
     have hji20w : (IntKind.i64.wrap (x24_1 + x31_2)) = ji20 := (Yi _).trans hji20
     by_cases c21 : 0 ≤ (ji20)
     rotate_left
     ·rw [if_neg c21] at H
      exact absurd H (by simp)
     rw [if_pos c21] at H
     have c21b0 : decide (0 ≤ (ji20)) = true := decide_eq_true c21
     clear c21
     by_cases c22 : (ji20) < (x5_2.length : Int)
     rotate_left
     ·rw [if_neg c22] at H
      exact absurd H (by simp)
     rw [if_pos c22] at H
     have c22b0 : decide ((ji20) < (x5_2.length : Int)) = true := decide_eq_true c22
     clear c22
     obtain ⟨y134, hy134⟩ : ∃ y_ : List Int, y_ = (x5_2.set ((ji20) : Int).toNat ((IntKind.u64.wrap ((IntKind.u64.wrap ((IntKind.u64.wrap ((IntKind.u64.wrap ((rd t119 x24_1))) * (IntKind.u64.wrap (rd t122 x31_2)))) + (IntKind.u64.wrap (rd x5_2 (ji20))))) + x8_2)) % 4294967296)) := ⟨_, rfl⟩
     replace H : (nats_Mul.l1 k2 t122 y134 x24_1 (rd t119 x24_1) ((IntKind.u64.wrap ((IntKind.u64.wrap ((IntKind.u64.wrap ((IntKind.u64.wrap ((rd t119 x24_1))) * (IntKind.u64.wrap (rd t122 x31_2)))) + (IntKind.u64.wrap (rd x5_2 (ji20))))) + x8_2)) / 4294967296) t119 (t119.length : Int) x24_1 t122 (t122.length : Int) (wrap64 (x31_2 + 1))) = some r := Qh hy134 H
     have Ny134 := Yt.mk hy134
     clear hy134
     have H' := Yt.mk H
     clear H
     have p132 : 0 ≤ (x31_2 : Int) := Qd
     have q132 : x31_2 < (t122.length : Int) := Qd
     obtain ⟨ad132, e132, hx132_0⟩ := Kd.at_int (Kd.Yn HO_29.out).2.2 x31_2 p132 q132
     cases e132
     replace p132 := eq_true p132
     replace q132 := eq_true q132
     obtain ⟨Ao24, co24, eo24⟩ := Kd.Zx HO_5.out
     subst eo24
     have p133 : 0 ≤ ((ji20) : Int) := Qd
     have q133 : (ji20) < (x5_2.length : Int) := Qd
     obtain ⟨ad133, e133, hx133_0⟩ := Kd.at_int (Kd.Zs HO_5.out).2.2 (ji20) p133 q133
     cases e133
     replace p133 := eq_true p133
     replace q133 := eq_true q133
     have p23 : 0 ≤ ((ji20) : Int) := Qd
     have q23 : ((ji20) : Int) < ((x5_2.length : Int) : Int) := Qd
     obtain ⟨go23, co23, eo23, gb23, gl23, cl23, HG23⟩ := Kd.R_form HO_5.out (by omega)
     (first | cases eo23 | (injection eo23 with ea_ en_ ec_; (first | subst ea_ | (injection ea_ with ea_; subst ea_)); subst ec_; clear en_))
     have GB23 := Yt.mk gb23
     have GG23 := Yt.mk HG23
     clear gb23 gl23 HG23
     (first | simp only [add_plain] at hx133_0 | skip)
     obtain ⟨hx23_0, hf23_0⟩ := Kd.R_celln 0 HO_5.out ((ji20) : Int) p23 q23
     replace p23 := eq_true p23
     replace q23 := eq_true q23
     obtain ⟨hy25_, hz25_⟩ := Kd.R_celln 0 HO_5.out ((ji20) : Int) (Qd) (Qd)
     have HP25 := Kd.R_putg HO_5.out ((ji20) : Int) ((IntKind.u64.wrap ((IntKind.u64.wrap ((IntKind.u64.wrap ((IntKind.u64.wrap ((rd t119 x24_1))) * (IntKind.u64.wrap (rd t122 x31_2)))) + (IntKind.u64.wrap (rd x5_2 (ji20))))) + x8_2)) % 4294967296)
     go_wp2_with (first | ((with_reducible refine gate_store (t := 47) (p := 59) rfl ?_); refine store_event (t := 47) (p := 59) (v := ?vo_w26) (w1 := (wr.setCell ⟨go23, ((ji20) : Int).toNat, none⟩ (.int .u32 ((IntKind.u64.wrap ((IntKind.u64.wrap ((IntKind.u64.wrap ((IntKind.u64.wrap ((rd t119 x24_1))) * (IntKind.u64.wrap (rd t122 x31_2)))) + (IntKind.u64.wrap (rd x5_2 (ji20))))) + x8_2)) % 4294967296)))) ?hg ?ho ?hn ?hr ?_; (case ho => rfl); (case hg => rfl); (case hn => rfl); (case hr => exact Qa9); intro w26 hw; have hg : wr.grownBy w26 (some go23) := (by rw [hw]; exact HP25.2); have hp_ : Kd.R (Kd.int .u32) 47 w26 w.heap.size (fun _ => True) (.slice (some ⟨go23, 0, none⟩) x5_2.length co24) y134 := (by rw [hw, Ny134.out]; exact HP25.1); clear HP25; replace HO_1 := Yt.mk (Kd.V_afterv (v := (.slice (some ⟨go23, 0, none⟩) x5_2.length co24)) (v1 := (.slice (some ⟨go23, 0, none⟩) x5_2.length co24)) (ok := (fun _ => True)) (by (with_reducible repeat (first | apply Kd.Zz | apply Kd.Zy | apply Kd.Ye)); exact Kd.Yp HO_1.out (fun _ hk => ⟨trivial, hk⟩)) hg (.inl rfl)); replace HO_5 := Yt.mk (hp_); replace HO_22 := Yt.mk (Kd.V_afterv (v := (.slice (some ⟨go23, 0, none⟩) x5_2.length co24)) (v1 := (.slice (some ⟨go23, 0, none⟩) x5_2.length co24)) (ok := (fun _ => True)) (by (with_reducible repeat (first | apply Kd.Zz | apply Kd.Zy | apply Kd.Ye)); exact Kd.Yp HO_22.out (fun _ hk => ⟨trivial, hk⟩)) hg (.inl rfl)); replace HO_29 := Yt.mk (Kd.V_afterv (v := (.slice (some ⟨go23, 0, none⟩) x5_2.length co24)) (v1 := (.slice (some ⟨go23, 0, none⟩) x5_2.length co24)) (ok := (fun _ => True)) (by (with_reducible repeat (first | apply Kd.Zz | apply Kd.Zy | apply Kd.Ye)); exact Kd.Yp HO_29.out (fun _ hk => ⟨trivial, hk⟩)) hg (.inl rfl)); replace HB := Yt.mk ((by rw [hw]; exact Zd (HB.out) GB23.out : Below w.heap.size w w26)); clear hg hw hp_))
     go_roundg k2
     case measure => have := HK1.out; have := HK2.out; omega
     case rel => exact ⟨(y134), ((IntKind.u64.wrap ((IntKind.u64.wrap ((IntKind.u64.wrap ((IntKind.u64.wrap ((rd t119 x24_1))) * (IntKind.u64.wrap (rd t122 x31_2)))) + (IntKind.u64.wrap (rd x5_2 (ji20))))) + x8_2)) / 4294967296), (wrap64 (x31_2 + 1)), (by first | rfl | (simp; done) | (simp only [← hji20] <;> (first | rfl | simp)) | (simp [*]; done)), Qa5, H', ⟨by have := HK1.out; have := HK2.out; omega⟩, ⟨by (with_reducible repeat (first | apply Kd.Zz | apply Kd.Zy | apply Kd.Ye)); exact Kd.Yp HO_1.out (fun _ hk => hk.2)⟩, ⟨Qr1 HO_5.out⟩, ⟨by (with_reducible repeat (first | apply Kd.Zz | apply Kd.Zy | apply Kd.Ye)); exact Kd.Yp HO_22.out (fun _ hk => hk.2)⟩, ⟨by (with_reducible repeat (first | apply Kd.Zz | apply Kd.Zy | apply Kd.Ye)); exact Kd.Yp HO_29.out (fun _ hk => hk.2)⟩, ⟨Qa0⟩⟩
def bits_Sub32.f (a0 : Int) (a1 : Int) (a2 : Int) : Option (Int × Int) := some ((((a0 - a1) % 4294967296) - a2) % 4294967296, (Go.bits .or .u32 (Go.bits .and .u32 (Go.bits .xor .u32 4294967295 a0) a1) (Go.bits .and .u32 (Go.bits .xor .u32 4294967295 (Go.bits .xor .u32 a0 a1)) ((((a0 - a1) % 4294967296) - a2) % 4294967296))) / 2147483648)
theorem bits_Sub32.calls (a0 : Int) (a1 : Int) (a2 : Int) (r1 : Int) (r2 : Int) (w : World) (h : bits_Sub32.f a0 a1 a2 = some (r1, r2)) :
  Calls Try.prog 116 #[.int .u32 a0, .int .u32 a1, .int .u32 a2] w fun e w' => e = .returned (.tuple #[.int .u32 r1, .int .u32 r2]) ∧ Drawn0 w w' := by
 unfold bits_Sub32.f at h
 have H := h
 clear h
 simp only [Option.some.injEq, Prod.mk.injEq] at H
 obtain ⟨rfl, rfl⟩ := H
 go_enter Try.func116, Try.ntmps116
 go_wp2
 go_ret2
 exact ⟨by first | rfl | (simp; done) | (simp [*]; done), Qa10⟩
def nats_Sub.l0 : Nat → List Int → List Int → List Int → Int → Int → Int → Option (List Int)
 | 0, _, _, _, _, _, _ => none
 | k + 1, x0, x1, x5, x6, x17, x18 => if x18 < x17 then (if x18 < (x1.length : Int) then (if 0 ≤ x18 then (if x18 < (x0.length : Int) then ((bits_Sub32.f (rd x0 x18) (rd x1 x18) x6).bind fun bt862 => (if x18 < (x5.length : Int) then (nats_Sub.l0 k x0 x1 (x5.set (x18 : Int).toNat bt862.1) bt862.2 x17 (wrap64 (x18 + 1))) else (none))) else (none)) else (none)) else (if 0 ≤ x18 then (if x18 < (x0.length : Int) then ((bits_Sub32.f (rd x0 x18) 0 x6).bind fun bt866 => (if x18 < (x5.length : Int) then (nats_Sub.l0 k x0 x1 (x5.set (x18 : Int).toNat bt866.1) bt866.2 x17 (wrap64 (x18 + 1))) else (none))) else (none)) else (none))) else ((nats_cuto.f k x5).bind fun t869 => (some t869))
def nats_Sub.f (k : Nat) (l0 : List Int) (l1 : List Int) : Option (List Int) := (nats_cut.f k l0).bind fun t851 => ((nats_cut.f k l1).bind fun t854 => (if 0 ≤ (t851.length : Int) then (if ((t851.length : Int) : Int).toNat ≤ 70368744177664 then (nats_Sub.l0 k t851 t854 (List.replicate ((t851.length : Int) : Int).toNat 0) 0 (t851.length : Int) 0) else (none)) else (none)))
theorem nats_Sub.mono_l : ∀ k, (∀ y0 y1 y2 y3 y4 y5, LeO (nats_Sub.l0 k y0 y1 y2 y3 y4 y5) (nats_Sub.l0 (k + 1) y0 y1 y2 y3 y4 y5))
 | 0 => fun _ _ _ _ _ _ r h => by simp [nats_Sub.l0] at h
 | k + 1 => by
  have ih0 := nats_Sub.mono_l k
  ·intro y0 y1 y2 y3 y4 y5
   unfold nats_Sub.l0
   have m0 := @nats_cut.mono
   have m1 := @nats_cuto.mono
   exact Qa6
theorem nats_Sub.mono : ∀ a0 a1 k, LeO (nats_Sub.f k a0 a1) (nats_Sub.f (k + 1) a0 a1) := by
 intro a0 a1 k
 have ih0 := nats_Sub.mono_l k
 unfold nats_Sub.f
 have m0 := @nats_cut.mono
 have m1 := @nats_cuto.mono
 exact Qa6
theorem nats_Sub.calls (k : Nat) (A0 : Option Addr) (c0 : Nat) (l0 : List Int) (A1 : Option Addr) (c1 : Nat) (l1 : List Int) (r : List Int) (w : World) (hr0 : Kd.C (Kd.int .u32) w A0 l0.length l0) (hc0 : l0.length ≤ c0) (hr1 : Kd.C (Kd.int .u32) w A1 l1.length l1) (hc1 : l1.length ≤ c1) (h : nats_Sub.f k l0 l1 = some r) :
  Calls Try.prog 94 #[.slice A0 l0.length c0, .slice A1 l1.length c1] w fun e w' => ∃ v0_ : Value, e = .returned (v0_) ∧ Kd.R (Kd.int .u32) 47 w' w.heap.size (fun _ => True) v0_ r ∧ Below w.heap.size w w' := by
 have HR0 := Yt.mk hr0
 have HC0 := Yt.mk hc0
 clear hr0 hc0
 have HR1 := Yt.mk hr1
 have HC1 := Yt.mk hc1
 clear hr1 hc1
 have HB := Yt.mk (Below.refl w.heap.size w)
 unfold nats_Sub.f at h
 have H := h
 clear h
 replace H := Option.bind_eq_some_iff.mp H
 obtain ⟨t851, A30, H⟩ := H
 try dsimp only at H
 have A3 := Yt.mk A30
 clear A30
 replace H := Option.bind_eq_some_iff.mp H
 obtain ⟨t854, A40, H⟩ := H
 try dsimp only at H
 have A4 := Yt.mk A40
 clear A40
 by_cases c5 : 0 ≤ (t851.length : Int)
 rotate_left
 ·rw [if_neg c5] at H
  exact absurd H (by simp)
 rw [if_pos c5] at H
 have c5b0 := eq_true c5
 have c5b1 : decide (0 ≤ (t851.length : Int)) = true := decide_eq_true c5
 clear c5
 by_cases c6 : ((t851.length : Int) : Int).toNat ≤ 70368744177664
 rotate_left
 ·rw [if_neg c6] at H
  exact absurd H (by simp)
 rw [if_pos c6] at H
 have c6b0 := eq_true c6
 have c6b1 : decide (((t851.length : Int) : Int).toNat ≤ 70368744177664) = true := decide_eq_true c6
 clear c6
 obtain ⟨y857, hy857⟩ : ∃ y_ : List Int, y_ = (List.replicate ((t851.length : Int) : Int).toNat 0) := ⟨_, rfl⟩
 replace H : (nats_Sub.l0 k t851 t854 y857 0 (t851.length : Int) 0) = some r := Qh hy857 H
 have Ny857 := Yt.mk hy857
 clear hy857
 have H' := Yt.mk H
 clear H
 go_enter Try.func94, Try.ntmps94
 go_wp2_with (first | ((with_reducible refine Zr (f := 108) rfl ?_); refine Yg (some 10) rfl rfl Try.func108 Qa8 rfl #[.slice A0 l0.length c0] rfl Qa2 ?_; (with_reducible refine (nats_cut.calls k (fun k_ => k_ < w.heap.size) _ _ l0 t851 _ ?side1 A3.out).mono ?_); (case side1 => exact Kd.V_mk HC0.out (Kd.F_below (Kd.C_F (Kd.heap_int .u32) HR0.out) (Qa0))); rintro e w7 ⟨v852, rfl, ho0, hb⟩; refine ⟨_, rfl, ?_⟩; have HO853 := Yt.mk (Kd.V_lower (Kd.Yp (ok' := fun k_ => True) ho0 (fun k_ hk_ => trivial)) (Zk (Qa0))); replace HB := Yt.mk (Zm (Qa0) hb); (try clear hb); (try clear ho0)) | ((with_reducible refine Zr (f := 108) rfl ?_); refine Yg (some 12) rfl rfl Try.func108 Qa8 rfl #[.slice A1 l1.length c1] rfl Qa2 ?_; (with_reducible refine (nats_cut.calls k (fun k_ => k_ < w.heap.size) _ _ l1 t854 _ ?side1 A4.out).mono ?_); (case side1 => exact Kd.V_mk HC1.out (Kd.F_below (Kd.C_F (Kd.heap_int .u32) HR1.out) (Qa0))); rintro e w8 ⟨v855, rfl, ho0, hb⟩; refine ⟨_, rfl, ?_⟩; replace HO853 := Yt.mk (Kd.Yr (Qr7 HO853.out) hb); have HO856 := Yt.mk (Kd.V_lower (Kd.Yp (ok' := fun k_ => True) ho0 (fun k_ hk_ => trivial)) (Zk (Qa0))); replace HB := Yt.mk (Zm (Qa0) hb); (try clear hb); (try clear ho0); obtain ⟨Ao9, co9, eo9⟩ := Kd.V_slice HO853.out; subst eo9) | ((with_reducible refine Yk (N := 15) rfl ?_); refine Kd.R_make (Kd.int .u32) _ 47 rfl (N := 15) rfl 22 _ _ rfl (t851.length : Int) rfl rfl Try.underlying22 (.int .u32 0) 4 info47 rfl (by decide) (by omega) 0 (ok := fun _ => True) (okp := fun _ => True) rfl (fun _ hk => hk) trivial (Qd) (Nat.le_trans (Nat.mul_le_mul_right _ (Qd : (t851.length : Int).toNat ≤ 70368744177664)) (by omega)) (Below.refl _ _) (Nat.le_refl _) ?_; intro v858 w10 ho11 hb hg_ hnew_; clear hg_ hnew_; (first | rw [← Ny857.out] at ho11 | (simp only [Int.reduceToNat] at ho11; rw [← Ny857.out] at ho11)); replace HO853 := Yt.mk (Kd.V_elder' (Qr7 HO853.out) (Kd.Zw ho11) hb); replace HO856 := Yt.mk (Kd.V_elder' (Qr7 HO856.out) (Kd.Zw ho11) hb); have HO859 := Yt.mk (Kd.Yb ho11 (Zk (Qa0))); replace HB := Yt.mk (Zm (Qa0) hb); clear hb ho11))
 go_loopg [6, 18] k (fun kq v6 v18 w' => ∃ (x5_1 : List Int) (x6_1 : Int) (x18_1 : Int), v6 = .int .u32 x6_1 ∧ v18 = .int .i64 x18_1 ∧ Yt (nats_Sub.l0 kq t851 t854 x5_1 x6_1 (t851.length : Int) x18_1 = some r) ∧ Yt (kq ≤ k) ∧ Yt (Kd.V (Kd.int .u32) 47 w' w.heap.size (fun k_ => some k_ ≠ (v858 : Value).ownBlock) (.slice Ao9 t851.length co9) t851) ∧ Yt (Kd.V (Kd.int .u32) 47 w' w.heap.size (fun k_ => some k_ ≠ (v858 : Value).ownBlock) v855 t854) ∧ Yt (Kd.R (Kd.int .u32) 47 w' w.heap.size (fun _ => True) v858 x5_1) ∧ Yt (Below w.heap.size w w'))
 case atStart => exact ⟨(y857), (0), (0), Qa5, Qa5, H', ⟨Nat.le_refl _⟩, ⟨by (with_reducible repeat (first | apply Kd.Zz | apply Kd.Zy | apply Kd.Ye)); exact Kd.Yp HO853.out (fun _ hk => hk.2)⟩, ⟨by (with_reducible repeat (first | apply Kd.Zz | apply Kd.Zy | apply Kd.Ye)); exact Kd.Yp HO856.out (fun _ hk => hk.2)⟩, ⟨Qr1 HO859.out⟩, ⟨Qa0⟩⟩
 case round =>
  clear H'
  try clear c1; try clear p2; try clear c5; try clear c5b0; try clear c5b1; try clear c6; try clear c6b0; try clear c6b1; try clear c9; try clear c10
  obtain ⟨x5_1, x6_1, x18_1, rfl, rfl, HA, HK1, HO_0, HO_1, HO_5, HB⟩ := hrel
  cases gk with
  | zero => exact absurd HA.out (by simp [nats_Sub.l0])
  | succ k1 =>
   have H := HA.out
   clear HA
   simp only [nats_Sub.l0] at H
   by_cases c12 : x18_1 < (t851.length : Int)
   rotate_left
   ·rw [if_neg c12] at H
    have c12b0 : decide (x18_1 < (t851.length : Int)) = false := decide_eq_false c12
    clear c12
    replace H := Option.bind_eq_some_iff.mp H
    obtain ⟨t869, A300, H⟩ := H
    replace H : (some t869) = some r := H
    have A30 := Yt.mk A300
    clear A300
    obtain rfl := Option.some.inj H
    obtain ⟨Ao31, co31, eo31⟩ := Kd.Zx HO_5.out
    subst eo31
    go_wp2_with (first | ((with_reducible refine Zr (f := 108) rfl ?_); refine Yg (some 44) rfl rfl Try.func108 Qa8 rfl #[.slice Ao31 x5_1.length co31] rfl Qa2 ?_; (with_reducible refine (nats_cuto.calls k1 (fun k_ => some k_ = (.slice Ao31 x5_1.length co31 : Value).ownBlock) (.slice Ao31 x5_1.length co31) x5_1 t869 w _ ?side1 ?side2 A30.out).mono ?_); (case side1 => repeat (first | (with_reducible first | exact HB.out | apply Zb | apply Za | apply Zc) | exact HB.out)); (case side2 => exact Kd.R_tight rfl HO_5.out); rintro e w32 ⟨v870, rfl, ho0, hb, hkp⟩; refine ⟨_, rfl, ?_⟩; replace HO_0 := Yt.mk (Kd.Yp (ok' := fun k_ => some k_ ≠ (v870 : Value).ownBlock) (Kd.V_keptB (HO_0.out) hkp (fun k_ hk_ hs_ => (hk_) hs_)) (fun k_ hk_ => fun e_ => Or.elim (ho0.1 k_ e_.symm) (fun hs_ => hk_.2.1 hs_) (fun hn_ => Nat.not_le.2 hk_.2.2 hn_))); replace HO_1 := Yt.mk (Kd.Yp (ok' := fun k_ => some k_ ≠ (v870 : Value).ownBlock) (Kd.V_keptB (HO_1.out) hkp (fun k_ hk_ hs_ => (hk_) hs_)) (fun k_ hk_ => fun e_ => Or.elim (ho0.1 k_ e_.symm) (fun hs_ => hk_.2.1 hs_) (fun hn_ => Nat.not_le.2 hk_.2.2 hn_))); have HO871 := Yt.mk (Kd.Zv (ok' := fun k_ => True) ho0 (fun k_ hk_ => trivial)); replace HB := Yt.mk (hb); clear HO_5; (try clear hb); (try clear hkp); (try clear ho0)))
    go_ret
    exact ⟨_, Qa4, Qr1 HO871.out, Qa0⟩
   rw [if_pos c12] at H
   have c12b0 : decide (x18_1 < (t851.length : Int)) = true := decide_eq_true c12
   clear c12
   by_cases c13 : x18_1 < (t854.length : Int)
   rotate_left
   ·rw [if_neg c13] at H
    have c13b0 : decide (x18_1 < (t854.length : Int)) = false := decide_eq_false c13
    clear c13
    by_cases c22 : 0 ≤ x18_1
    rotate_left
    ·rw [if_neg c22] at H
     exact absurd H (by simp)
    rw [if_pos c22] at H
    have c22b0 : decide (0 ≤ x18_1) = true := decide_eq_true c22
    clear c22
    by_cases c23 : x18_1 < (t851.length : Int)
    rotate_left
    ·rw [if_neg c23] at H
     exact absurd H (by simp)
    rw [if_pos c23] at H
    have c23b0 : decide (x18_1 < (t851.length : Int)) = true := decide_eq_true c23
    clear c23
    replace H := Option.bind_eq_some_iff.mp H
    obtain ⟨⟨t866, t867⟩, A240, H⟩ := H
    try dsimp only at H
    have A24 := Yt.mk A240
    clear A240
    by_cases c25 : x18_1 < (x5_1.length : Int)
    rotate_left
    ·rw [if_neg c25] at H
     exact absurd H (by simp)
    rw [if_pos c25] at H
    have c25b0 : decide (x18_1 < (x5_1.length : Int)) = true := decide_eq_true c25
    clear c25
    obtain ⟨y868, hy868⟩ : ∃ y_ : List Int, y_ = (x5_1.set (x18_1 : Int).toNat t866) := ⟨_, rfl⟩
    replace H : (nats_Sub.l0 k1 t851 t854 y868 t867 (t851.length : Int) (wrap64 (x18_1 + 1))) = some r := Qh hy868 H
    have Ny868 := Yt.mk hy868
    clear hy868
    have H' := Yt.mk H
    clear H
    obtain ⟨Ao27, co27, eo27⟩ := Kd.V_slice HO_1.out
    subst eo27
    have p865 : 0 ≤ (x18_1 : Int) := Qd
    have q865 : x18_1 < (t851.length : Int) := Qd
    obtain ⟨ad865, e865, hx865_0⟩ := Kd.at_int (Kd.Yn HO_0.out).2.2 x18_1 p865 q865
    cases e865
    replace p865 := eq_true p865
    replace q865 := eq_true q865
    go_wp2_with (first | ((with_reducible refine Zr (f := 116) rfl ?_); refine Yg (some 38) rfl rfl Try.func116 Qa8 rfl #[.int .u32 (rd t851 x18_1), .int .u32 0, .int .u32 x6_1] rfl Qa2 ?_; (with_reducible refine (bits_Sub32.calls (rd t851 x18_1) 0 x6_1 t866 t867 _ A24.out).mono ?_); rintro e w' ⟨rfl, ⟨nd, rfl⟩⟩; refine ⟨_, rfl, ?_⟩; (try (rw [drewN_self wr]; generalize hq_ : World.drewN wr _ = wr; have n0_ : Yt (Kd.V (Kd.int .u32) 47 wr w.heap.size (fun k_ => some k_ ≠ (v858 : Value).ownBlock) (.slice (some ad865) t851.length co9) t851) := ⟨by rw [← hq_]; exact (Qr7 HO_0.out)⟩; have n1_ : Yt (Kd.V (Kd.int .u32) 47 wr w.heap.size (fun k_ => some k_ ≠ (v858 : Value).ownBlock) (.slice Ao27 t854.length co27) t854) := ⟨by rw [← hq_]; exact (Qr7 HO_1.out)⟩; have n2_ : Yt (Kd.R (Kd.int .u32) 47 wr w.heap.size (fun _ => True) v858 x5_1) := ⟨by rw [← hq_]; exact (Qr1 HO_5.out)⟩; have n3_ : Yt (Below w.heap.size w wr) := ⟨by rw [← hq_]; exact (Qa0)⟩; clear HO_0 HO_1 HO_5 HB hq_; have HO_0 := n0_; have HO_1 := n1_; have HO_5 := n2_; have HB := n3_; clear n0_ n1_ n2_ n3_)); have p26 : 0 ≤ (x18_1 : Int) := Qd; have q26 : (x18_1 : Int) < ((x5_1.length : Int) : Int) := Qd; obtain ⟨go26, co26, eo26, gb26, gl26, cl26, HG26⟩ := Kd.R_form HO_5.out (by omega); (first | cases eo26 | (injection eo26 with ea_ en_ ec_; (first | subst ea_ | (injection ea_ with ea_; subst ea_)); subst ec_; clear en_)); have GB26 := Yt.mk gb26; have GG26 := Yt.mk HG26; clear gb26 gl26 HG26; obtain ⟨hx26_0, hf26_0⟩ := Kd.R_celln 0 HO_5.out (x18_1 : Int) p26 q26; replace p26 := eq_true p26; replace q26 := eq_true q26; obtain ⟨hy28_, hz28_⟩ := Kd.R_celln 0 HO_5.out (x18_1 : Int) (Qd) (Qd); have HP28 := Kd.R_putg HO_5.out (x18_1 : Int) t866) | ((with_reducible refine gate_store (t := 47) (p := 41) rfl ?_); refine store_event (t := 47) (p := 41) (v := ?vo_w29) (w1 := (wr.setCell ⟨go26, (x18_1 : Int).toNat, none⟩ (.int .u32 t866))) ?hg ?ho ?hn ?hr ?_; (case ho => rfl); (case hg => rfl); (case hn => rfl); (case hr => exact Qa9); intro w29 hw; have hg : wr.grownBy w29 (some go26) := (by rw [hw]; exact HP28.2); have hp_ : Kd.R (Kd.int .u32) 47 w29 w.heap.size (fun _ => True) (.slice (some ⟨go26, 0, none⟩) x5_1.length co26) y868 := (by rw [hw, Ny868.out]; exact HP28.1); clear HP28; replace HO_0 := Yt.mk (Kd.V_afterv (v := (.slice (some ⟨go26, 0, none⟩) x5_1.length co26)) (v1 := (.slice (some ⟨go26, 0, none⟩) x5_1.length co26)) (ok := (fun _ => True)) (by (with_reducible repeat (first | apply Kd.Zz | apply Kd.Zy | apply Kd.Ye)); exact Kd.Yp HO_0.out (fun _ hk => ⟨trivial, hk⟩)) hg (.inl rfl)); replace HO_1 := Yt.mk (Kd.V_afterv (v := (.slice (some ⟨go26, 0, none⟩) x5_1.length co26)) (v1 := (.slice (some ⟨go26, 0, none⟩) x5_1.length co26)) (ok := (fun _ => True)) (by (with_reducible repeat (first | apply Kd.Zz | apply Kd.Zy | apply Kd.Ye)); exact Kd.Yp HO_1.out (fun _ hk => ⟨trivial, hk⟩)) hg (.inl rfl)); replace HO_5 := Yt.mk (hp_); replace HB := Yt.mk ((by rw [hw]; exact Zd (HB.out) GB26.out : Below w.heap.size w w29)); clear hg hw hp_))
    go_roundg k1
    case measure => have := HK1.out; omega
    case rel => exact ⟨(y868), (t867), (wrap64 (x18_1 + 1)), Qa5, Qa5, H', ⟨by have := HK1.out; omega⟩, ⟨by (with_reducible repeat (first | apply Kd.Zz | apply Kd.Zy | apply Kd.Ye)); exact Kd.Yp HO_0.out (fun _ hk => hk.2)⟩, ⟨by (with_reducible repeat (first | apply Kd.Zz | apply Kd.Zy | apply Kd.Ye)); exact Kd.Yp HO_1.out (fun _ hk => hk.2)⟩, ⟨Qr1 HO_5.out⟩, ⟨Qa0⟩⟩
   rw [if_pos c13] at H
   have c13b0 : decide (x18_1 < (t854.length : Int)) = true := decide_eq_true c13
   clear c13
   by_cases c14 : 0 ≤ x18_1
   rotate_left
   ·rw [if_neg c14] at H
    exact absurd H (by simp)
   rw [if_pos c14] at H
   have c14b0 : decide (0 ≤ x18_1) = true := decide_eq_true c14
   clear c14
   by_cases c15 : x18_1 < (t851.length : Int)
   rotate_left
   ·rw [if_neg c15] at H
    exact absurd H (by simp)
   rw [if_pos c15] at H
   have c15b0 : decide (x18_1 < (t851.length : Int)) = true := decide_eq_true c15
   clear c15
   replace H := Option.bind_eq_some_iff.mp H
   obtain ⟨⟨t862, t863⟩, A160, H⟩ := H
   try dsimp only at H
   have A16 := Yt.mk A160
   clear A160
   by_cases c17 : x18_1 < (x5_1.length : Int)
   rotate_left
   ·rw [if_neg c17] at H
    exact absurd H (by simp)
   rw [if_pos c17] at H
   have c17b0 : decide (x18_1 < (x5_1.length : Int)) = true := decide_eq_true c17
   clear c17
   obtain ⟨y864, hy864⟩ : ∃ y_ : List Int, y_ = (x5_1.set (x18_1 : Int).toNat t862) := ⟨_, rfl⟩
   replace H : (nats_Sub.l0 k1 t851 t854 y864 t863 (t851.length : Int) (wrap64 (x18_1 + 1))) = some r := Qh hy864 H
   have Ny864 := Yt.mk hy864
   clear hy864
   have H' := Yt.mk H
   clear H
   obtain ⟨Ao19, co19, eo19⟩ := Kd.V_slice HO_1.out
   subst eo19
   have p860 : 0 ≤ (x18_1 : Int) := Qd
   have q860 : x18_1 < (t854.length : Int) := Qd
   obtain ⟨ad860, e860, hx860_0⟩ := Kd.at_int (Kd.Yn HO_1.out).2.2 x18_1 p860 q860
   cases e860
   replace p860 := eq_true p860
   replace q860 := eq_true q860
   have p861 : 0 ≤ (x18_1 : Int) := Qd
   have q861 : x18_1 < (t851.length : Int) := Qd
   obtain ⟨ad861, e861, hx861_0⟩ := Kd.at_int (Kd.Yn HO_0.out).2.2 x18_1 p861 q861
   cases e861
   replace p861 := eq_true p861
   replace q861 := eq_true q861
   go_wp2_with (first | ((with_reducible refine Zr (f := 116) rfl ?_); refine Yg (some 38) rfl rfl Try.func116 Qa8 rfl #[.int .u32 (rd t851 x18_1), .int .u32 (rd t854 x18_1), .int .u32 x6_1] rfl Qa2 ?_; (with_reducible refine (bits_Sub32.calls (rd t851 x18_1) (rd t854 x18_1) x6_1 t862 t863 _ A16.out).mono ?_); rintro e w' ⟨rfl, ⟨nd, rfl⟩⟩; refine ⟨_, rfl, ?_⟩; (try (rw [drewN_self wr]; generalize hq_ : World.drewN wr _ = wr; have n0_ : Yt (Kd.V (Kd.int .u32) 47 wr w.heap.size (fun k_ => some k_ ≠ (v858 : Value).ownBlock) (.slice (some ad861) t851.length co9) t851) := ⟨by rw [← hq_]; exact (Qr7 HO_0.out)⟩; have n1_ : Yt (Kd.V (Kd.int .u32) 47 wr w.heap.size (fun k_ => some k_ ≠ (v858 : Value).ownBlock) (.slice (some ad860) t854.length co19) t854) := ⟨by rw [← hq_]; exact (Qr7 HO_1.out)⟩; have n2_ : Yt (Kd.R (Kd.int .u32) 47 wr w.heap.size (fun _ => True) v858 x5_1) := ⟨by rw [← hq_]; exact (Qr1 HO_5.out)⟩; have n3_ : Yt (Below w.heap.size w wr) := ⟨by rw [← hq_]; exact (Qa0)⟩; clear HO_0 HO_1 HO_5 HB hq_; have HO_0 := n0_; have HO_1 := n1_; have HO_5 := n2_; have HB := n3_; clear n0_ n1_ n2_ n3_)); have p18 : 0 ≤ (x18_1 : Int) := Qd; have q18 : (x18_1 : Int) < ((x5_1.length : Int) : Int) := Qd; obtain ⟨go18, co18, eo18, gb18, gl18, cl18, HG18⟩ := Kd.R_form HO_5.out (by omega); (first | cases eo18 | (injection eo18 with ea_ en_ ec_; (first | subst ea_ | (injection ea_ with ea_; subst ea_)); subst ec_; clear en_)); have GB18 := Yt.mk gb18; have GG18 := Yt.mk HG18; clear gb18 gl18 HG18; obtain ⟨hx18_0, hf18_0⟩ := Kd.R_celln 0 HO_5.out (x18_1 : Int) p18 q18; replace p18 := eq_true p18; replace q18 := eq_true q18; obtain ⟨hy20_, hz20_⟩ := Kd.R_celln 0 HO_5.out (x18_1 : Int) (Qd) (Qd); have HP20 := Kd.R_putg HO_5.out (x18_1 : Int) t862) | ((with_reducible refine gate_store (t := 47) (p := 41) rfl ?_); refine store_event (t := 47) (p := 41) (v := ?vo_w21) (w1 := (wr.setCell ⟨go18, (x18_1 : Int).toNat, none⟩ (.int .u32 t862))) ?hg ?ho ?hn ?hr ?_; (case ho => rfl); (case hg => rfl); (case hn => rfl); (case hr => exact Qa9); intro w21 hw; have hg : wr.grownBy w21 (some go18) := (by rw [hw]; exact HP20.2); have hp_ : Kd.R (Kd.int .u32) 47 w21 w.heap.size (fun _ => True) (.slice (some ⟨go18, 0, none⟩) x5_1.length co18) y864 := (by rw [hw, Ny864.out]; exact HP20.1); clear HP20; replace HO_0 := Yt.mk (Kd.V_afterv (v := (.slice (some ⟨go18, 0, none⟩) x5_1.length co18)) (v1 := (.slice (some ⟨go18, 0, none⟩) x5_1.length co18)) (ok := (fun _ => True)) (by (with_reducible repeat (first | apply Kd.Zz | apply Kd.Zy | apply Kd.Ye)); exact Kd.Yp HO_0.out (fun _ hk => ⟨trivial, hk⟩)) hg (.inl rfl)); replace HO_1 := Yt.mk (Kd.V_afterv (v := (.slice (some ⟨go18, 0, none⟩) x5_1.length co18)) (v1 := (.slice (some ⟨go18, 0, none⟩) x5_1.length co18)) (ok := (fun _ => True)) (by (with_reducible repeat (first | apply Kd.Zz | apply Kd.Zy | apply Kd.Ye)); exact Kd.Yp HO_1.out (fun _ hk => ⟨trivial, hk⟩)) hg (.inl rfl)); replace HO_5 := Yt.mk (hp_); replace HB := Yt.mk ((by rw [hw]; exact Zd (HB.out) GB18.out : Below w.heap.size w w21)); clear hg hw hp_))
   go_roundg k1
   case measure => have := HK1.out; omega
   case rel => exact ⟨(y864), (t863), (wrap64 (x18_1 + 1)), Qa5, Qa5, H', ⟨by have := HK1.out; omega⟩, ⟨by (with_reducible repeat (first | apply Kd.Zz | apply Kd.Zy | apply Kd.Ye)); exact Kd.Yp HO_0.out (fun _ hk => hk.2)⟩, ⟨by (with_reducible repeat (first | apply Kd.Zz | apply Kd.Zy | apply Kd.Ye)); exact Kd.Yp HO_1.out (fun _ hk => hk.2)⟩, ⟨Qr1 HO_5.out⟩, ⟨Qa0⟩⟩
mutual
def r1_Trim.j1 : Nat → List Int → Int → Option (List Int)
 | 0, _, _ => none
 | k + 1, x0, x3 => r1_Trim.l1 k x0 x3 ([] : List Int) 0
def r1_Trim.l1 : Nat → List Int → Int → List Int → Int → Option (List Int)
 | 0, _, _, _, _ => none
 | k + 1, x0, x3, x4, x5 => if x5 < x3 then (if 0 ≤ x5 then (if x5 < (x0.length : Int) then (if x4.length < 35184372088832 then (r1_Trim.l1 k x0 x3 (x4 ++ [rd x0 x5]) (wrap64 (x5 + 1))) else (none)) else (none)) else (none)) else (some x4)
def r1_Trim.l0 : Nat → List Int → Int → Option (List Int)
 | 0, _, _ => none
 | k + 1, x0, x3 => if x3 > 0 then (if 0 ≤ (wrap64 (x3 - 1)) then (if (wrap64 (x3 - 1)) < (x0.length : Int) then (if (rd x0 (wrap64 (x3 - 1))) = 0 then (r1_Trim.l0 k x0 (wrap64 (x3 - 1))) else (r1_Trim.j1 k x0 x3)) else (none)) else (none)) else (r1_Trim.j1 k x0 x3)
end
def r1_Trim.f (k : Nat) (l0 : List Int) : Option (List Int) := r1_Trim.l0 k l0 (l0.length : Int)
theorem r1_Trim.calls (k : Nat) (A0 : Option Addr) (c0 : Nat) (l0 : List Int) (r : List Int) (w : World) (hr0 : Kd.C (Kd.int .u32) w A0 l0.length l0) (hc0 : l0.length ≤ c0) (h : r1_Trim.f k l0 = some r) :
  Calls Try.prog 46 #[.slice A0 l0.length c0] w fun e w' => ∃ v0_ : Value, e = .returned (v0_) ∧ Kd.R (Kd.int .u32) 47 w' w.heap.size (fun _ => True) v0_ r ∧ Below w.heap.size w w' := by
 have HR0 := Yt.mk hr0
 have HC0 := Yt.mk hc0
 clear hr0 hc0
 have HB := Yt.mk (Below.refl w.heap.size w)
 unfold r1_Trim.f at h
 have H := h
 clear h
 have HC2 := Yt.mk H
 clear H
 go_enter Try.func46, Try.ntmps46
 go_upto_block 0 with (fail)
 go_cut [3] (fun v3 wc => ∃ (kq : Nat) (x3_1 : Int), v3 = .int .i64 x3_1 ∧ Yt (r1_Trim.j1 kq l0 x3_1 = some r) ∧ Yt (kq ≤ k) ∧ Yt (Below w.heap.size w wc))
 case first =>
  have H := HC2.out
  clear HC2
  have H' := Yt.mk H
  clear H
  go_wp2
  go_loopg [3] k (fun kq v3 w' => ∃ (x3_1 : Int), v3 = .int .i64 x3_1 ∧ Yt (r1_Trim.l0 kq l0 x3_1 = some r) ∧ Yt (kq ≤ k) ∧ Yt (Below w.heap.size w w'))
  case atStart => exact ⟨((l0.length : Int)), Qa5, H', ⟨Nat.le_refl _⟩, ⟨Qa0⟩⟩
  case round =>
   clear H'
   try clear p2
   obtain ⟨x3_1, rfl, HA, HK1, HB⟩ := hrel
   cases gk with
   | zero => exact absurd HA.out (by simp [r1_Trim.l0])
   | succ k1 =>
    have H := HA.out
    clear HA
    simp only [r1_Trim.l0] at H
    by_cases c3 : x3_1 > 0
    rotate_left
    ·rw [if_neg c3] at H
     have c3b0 : decide (0 < x3_1) = false := decide_eq_false c3
     clear c3
     (first | rw [c3b0] | rw [c3b1] | (simp only [Yi, Yj]; rw [c3b0]) | skip)
     have H' := Yt.mk H
     clear H
     go_wp2
     go_meet
     case rel => exact ⟨_, (x3_1), Qa5, H', ⟨by have := HK1.out; first | omega | exact Nat.le_refl _⟩, ⟨Qa0⟩⟩
    rw [if_pos c3] at H
    have c3b0 : decide (0 < x3_1) = true := decide_eq_true c3
    clear c3
    (first | rw [c3b0] | rw [c3b1] | (simp only [Yi, Yj]; rw [c3b0]) | skip)
    obtain ⟨ji4, hji4⟩ : ∃ j_ : Int, (wrap64 (x3_1 - 1)) = j_ := ⟨_, rfl⟩
    replace H : (if 0 ≤ (ji4) then (if (ji4) < (l0.length : Int) then (if (rd l0 (ji4)) = 0 then (r1_Trim.l0 k1 l0 ji4) else (r1_Trim.j1 k1 l0 x3_1)) else (none)) else (none)) = some r := by first | (rw [hji4] at H; exact H) | (simp only [hji4] at H ⊢; exact H)
    have hji4w : (IntKind.i64.wrap (x3_1 - 1)) = ji4 := (Yi _).trans hji4
    by_cases c5 : 0 ≤ (ji4)
    rotate_left
    ·rw [if_neg c5] at H
     exact absurd H (by simp)
    rw [if_pos c5] at H
    have c5b0 : decide (0 ≤ (ji4)) = true := decide_eq_true c5
    clear c5
    by_cases c6 : (ji4) < (l0.length : Int)
    rotate_left
    ·rw [if_neg c6] at H
     exact absurd H (by simp)
    rw [if_pos c6] at H
    have c6b0 : decide ((ji4) < (l0.length : Int)) = true := decide_eq_true c6
    clear c6
    by_cases c7 : (rd l0 (ji4)) = 0
    rotate_left
    ·rw [if_neg c7] at H
     have c7b0 : ((rd l0 (ji4)) == 0) = false := beq_eq_false_iff_ne.mpr c7
     have c7b1 : ((rd l0 (ji4)) != 0) = true := bne_iff_ne.mpr c7
     have H' := Yt.mk H
     clear H
     have p401 : 0 ≤ ((ji4) : Int) := Qd
     have q401 : (ji4) < (l0.length : Int) := Qd
     obtain ⟨ad401, e401, hx401_0⟩ := Kd.at_int HR0.out (ji4) p401 q401
     cases e401
     replace hx401_0 := (HB.out.cell (World.block_lt_of_cell? w _ hx401_0)).trans hx401_0
     replace p401 := eq_true p401
     replace q401 := eq_true q401
     go_wp2
     go_meet
     case rel => exact ⟨_, (x3_1), Qa5, H', ⟨by have := HK1.out; first | omega | exact Nat.le_refl _⟩, ⟨Qa0⟩⟩
    rw [if_pos c7] at H
    have c7b0 : ((rd l0 (ji4)) == 0) = true := beq_iff_eq.mpr c7
    have c7b1 : ((rd l0 (ji4)) != 0) = false := bne_eq_false_iff_eq.mpr c7
    clear c7
    have H' := Yt.mk H
    clear H
    have p401 : 0 ≤ ((ji4) : Int) := Qd
    have q401 : (ji4) < (l0.length : Int) := Qd
    obtain ⟨ad401, e401, hx401_0⟩ := Kd.at_int HR0.out (ji4) p401 q401
    cases e401
    replace hx401_0 := (HB.out.cell (World.block_lt_of_cell? w _ hx401_0)).trans hx401_0
    replace p401 := eq_true p401
    replace q401 := eq_true q401
    go_wp2
    go_roundg k1
    case measure => have := HK1.out; omega
    case rel => exact ⟨(ji4), (by first | rfl | (simp; done) | (simp only [← hji4] <;> (first | rfl | simp)) | (simp [*]; done)), H', ⟨by have := HK1.out; omega⟩, ⟨Qa0⟩⟩
 case rest =>
  clear HC2
  try clear p2; try clear c3; try clear c3b0; try clear c3b1; try clear c4; try clear p4; try clear q4; try clear hx4; try clear c5; try clear c5b0; try clear c6; try clear c6b0; try clear p6; try clear c7; try clear c7b0; try clear c7b1; try clear hx401_0; try clear p2; try clear p401; try clear q401
  obtain ⟨kq, x3_1, rfl, HA, HJ1, HB⟩ := hcut
  cases kq with
  | zero => exact absurd HA.out (by simp [r1_Trim.j1])
  | succ kj1 =>
   have H := HA.out
   clear HA
   simp only [r1_Trim.j1] at H
   have H' := Yt.mk H
   clear H
   go_wp2
   go_loopg [4, 5] kj1 (fun kq v4 v5 w' => ∃ (x4_2 : List Int) (x5_2 : Int), v5 = .int .i64 x5_2 ∧ Yt (r1_Trim.l1 kq l0 x3_1 x4_2 x5_2 = some r) ∧ Yt (kq ≤ kj1) ∧ Yt (Kd.R (Kd.int .u32) 47 w' w.heap.size (fun _ => True) v4 x4_2) ∧ Yt (Below w.heap.size w w'))
   case atStart => exact ⟨(([] : List Int)), (0), Qa5, H', ⟨Nat.le_refl _⟩, ⟨by first | exact Kd.R_nil _ _ _ _ _ | exact Kd.N_nil _ _ _ _ _ | exact Kd.V_nil _ _ _ _ _ | exact Kd.Q_nil _ _ _ _ _ | exact Kd.S_nil _ _ _ _ _⟩, ⟨Qa0⟩⟩
   case round =>
    clear H'
    try clear p2; try clear c3; try clear c3b0; try clear c3b1; try clear c4; try clear p4; try clear q4; try clear hx4; try clear c5; try clear c5b0; try clear c6; try clear c6b0; try clear p6; try clear c7; try clear c7b0; try clear c7b1; try clear hx401_0; try clear p2; try clear p4; try clear p401; try clear p6; try clear q4; try clear q401
    obtain ⟨x4_2, x5_2, rfl, HA, HK2, HO_4, HB⟩ := hrel
    cases gk with
    | zero => exact absurd HA.out (by simp [r1_Trim.l1])
    | succ k2 =>
     have H := HA.out
     clear HA
     simp only [r1_Trim.l1] at H
     by_cases c8 : x5_2 < x3_1
     rotate_left
     ·rw [if_neg c8] at H
      have c8b0 : decide (x5_2 < x3_1) = false := decide_eq_false c8
      clear c8
      obtain rfl := Option.some.inj H
      go_wp2
      go_ret
      exact ⟨_, Qa4, Qr1 HO_4.out, Qa0⟩
     rw [if_pos c8] at H
     have c8b0 : decide (x5_2 < x3_1) = true := decide_eq_true c8
     clear c8
     by_cases c9 : 0 ≤ x5_2
     rotate_left
     ·rw [if_neg c9] at H
      exact absurd H (by simp)
     rw [if_pos c9] at H
     have c9b0 : decide (0 ≤ x5_2) = true := decide_eq_true c9
     clear c9
     by_cases c10 : x5_2 < (l0.length : Int)
     rotate_left
     ·rw [if_neg c10] at H
      exact absurd H (by simp)
     rw [if_pos c10] at H
     have c10b0 : decide (x5_2 < (l0.length : Int)) = true := decide_eq_true c10
     clear c10
     by_cases c11 : x4_2.length < 35184372088832
     rotate_left
     ·rw [if_neg c11] at H
      exact absurd H (by simp)
     rw [if_pos c11] at H
     have LMc11 := Yt.mk c11
     clear c11
     obtain ⟨y403, hy403⟩ : ∃ y_ : List Int, y_ = (x4_2 ++ [rd l0 x5_2]) := ⟨_, rfl⟩
     replace H : (r1_Trim.l1 k2 l0 x3_1 y403 (wrap64 (x5_2 + 1))) = some r := Qh hy403 H
     have Ny403 := Yt.mk hy403
     clear hy403
     have H' := Yt.mk H
     clear H
     have p402 : 0 ≤ (x5_2 : Int) := Qd
     have q402 : x5_2 < (l0.length : Int) := Qd
     obtain ⟨ad402, e402, hx402_0⟩ := Kd.at_int HR0.out x5_2 p402 q402
     cases e402
     replace hx402_0 := (HB.out.cell (World.block_lt_of_cell? w _ hx402_0)).trans hx402_0
     replace p402 := eq_true p402
     replace q402 := eq_true q402
     go_wp2_with (first | ((with_reducible refine gate_builtin (b := .append) (xs := #[.tmp 25, .tmp 30]) rfl ?_); at_builtin; refine Kd.R_append (Kd.int .u32) (w0 := w) w.heap.size rfl (.tmp 25) (.tmp 30) 22 47 (.int .u32 0) 4 rfl Try.underlying22 info47 rfl (by decide) (by omega) u4 x4_2 (rd l0 x5_2) [.int .u32 (rd l0 x5_2)] (fun _ => True) (fun _ => False) rfl rfl ?aP (fun _ hk => hk.elim) ?aF ?aO ?aB ?aS ?aL ?_; (case aP => exact rfl); (case aB => exact (Qa0)); (case aF => exact (fun _ _ => trivial)); (case aO => exact (Qr1 HO_4.out)); (case aS => exact (Zk (Qa0))); (case aL => have := LMc11.out; omega); intro v404 w12 ho hb hg hat; rw [← Ny403.out] at ho; replace HB := Yt.mk (hb); have HO405 := Yt.mk (ho); clear HO_4; clear ho hb hg hat))
     go_roundg k2
     case measure => have := HJ1.out; have := HK2.out; omega
     case rel => exact ⟨(y403), (wrap64 (x5_2 + 1)), Qa5, H', ⟨by have := HJ1.out; have := HK2.out; omega⟩, ⟨Qr1 HO405.out⟩, ⟨Qa0⟩⟩
def r1_Bits.l0 : Nat → Int → Int → Option (Int)
 | 0, _, _ => none
 | k + 1, x4, x5 => if x5 > 0 then (r1_Bits.l0 k (wrap64 (x4 + 1)) ((Int.tdiv x5 2) % 4294967296)) else (some x4)
def r1_Bits.f (k : Nat) (l0 : List Int) : Option (Int) := (r1_Trim.f k l0).bind fun t445 => (if (t445.length : Int) = 0 then (some 0) else (if 0 ≤ (wrap64 ((t445.length : Int) - 1)) then (if (wrap64 ((t445.length : Int) - 1)) < (t445.length : Int) then (r1_Bits.l0 k (wrap64 (32 * (wrap64 ((t445.length : Int) - 1)))) (rd t445 (wrap64 ((t445.length : Int) - 1)))) else (none)) else (none)))
theorem r1_Bits.calls (k : Nat) (A0 : Option Addr) (c0 : Nat) (l0 : List Int) (r : Int) (w : World) (hr0 : Kd.C (Kd.int .u32) w A0 l0.length l0) (hc0 : l0.length ≤ c0) (h : r1_Bits.f k l0 = some r) :
  Calls Try.prog 27 #[.slice A0 l0.length c0] w fun e w' => e = .returned (.int .i64 r) ∧ Below w.heap.size w w' := by
 have HR0 := Yt.mk hr0
 have HC0 := Yt.mk hc0
 clear hr0 hc0
 have HB := Yt.mk (Below.refl w.heap.size w)
 unfold r1_Bits.f at h
 have H := h
 clear h
 replace H := Option.bind_eq_some_iff.mp H
 obtain ⟨t445, A20, H⟩ := H
 try dsimp only at H
 have A2 := Yt.mk A20
 clear A20
 by_cases c3 : (t445.length : Int) = 0
 ·rw [if_pos c3] at H
  have c3b0 : ((t445.length : Int) == 0) = true := beq_iff_eq.mpr c3
  have c3b1 : ((t445.length : Int) != 0) = false := bne_eq_false_iff_eq.mpr c3
  clear c3
  obtain rfl := Option.some.inj H
  go_enter Try.func27, Try.ntmps27
  go_wp2_with (first | ((with_reducible refine Zr (f := 46) rfl ?_); refine Yg (some 7) rfl rfl Try.func46 Qa8 rfl #[.slice A0 l0.length c0] rfl Qa2 ?_; (with_reducible refine (r1_Trim.calls k _ _ l0 t445 _ ?side1 ?side2 A2.out).mono ?_); (case side1 => exact Qe11 HR0.out); (case side2 => exact HC0.out); rintro e w4 ⟨v446, rfl, ho0, hb⟩; refine ⟨_, rfl, ?_⟩; have HO447 := Yt.mk (Kd.Yb ho0 (Zk (Qa0))); replace HB := Yt.mk (Zm (Qa0) hb); (try clear hb); (try clear ho0); obtain ⟨Ao5, co5, eo5⟩ := Kd.Zx HO447.out; subst eo5))
  go_ret
  exact ⟨Qa4, Qa0⟩
 rw [if_neg c3] at H
 have c3b0 : ((t445.length : Int) == 0) = false := beq_eq_false_iff_ne.mpr c3
 have c3b1 : ((t445.length : Int) != 0) = true := bne_iff_ne.mpr c3
 have c3b2 : ¬ (t445 = []) := fun h_ => c3 (by rw [h_]; rfl)
 obtain ⟨ji6, hji6⟩ : ∃ j_ : Int, (wrap64 ((t445.length : Int) - 1)) = j_ := ⟨_, rfl⟩
 replace H : (if 0 ≤ (ji6) then (if (ji6) < (t445.length : Int) then (r1_Bits.l0 k (wrap64 (32 * (ji6))) (rd t445 (ji6))) else (none)) else (none)) = some r := by first | (rw [hji6] at H; exact H) | (simp only [hji6] at H ⊢; exact H)
 (try rw [hji6] at A2)
 have hji6w : (IntKind.i64.wrap ((t445.length : Int) - 1)) = ji6 := (Yi _).trans hji6
 by_cases c7 : 0 ≤ (ji6)
 rotate_left
 ·rw [if_neg c7] at H
  exact absurd H (by simp)
 rw [if_pos c7] at H
 have c7b0 : decide (0 ≤ (ji6)) = true := decide_eq_true c7
 clear c7
 by_cases c8 : (ji6) < (t445.length : Int)
 rotate_left
 ·rw [if_neg c8] at H
  exact absurd H (by simp)
 rw [if_pos c8] at H
 have c8b0 : decide ((ji6) < (t445.length : Int)) = true := decide_eq_true c8
 clear c8
 have H' := Yt.mk H
 clear H
 go_enter Try.func27, Try.ntmps27
 go_wp2_with (first | ((with_reducible refine Zr (f := 46) rfl ?_); refine Yg (some 7) rfl rfl Try.func46 Qa8 rfl #[.slice A0 l0.length c0] rfl Qa2 ?_; (with_reducible refine (r1_Trim.calls k _ _ l0 t445 _ ?side1 ?side2 A2.out).mono ?_); (case side1 => exact Qe11 HR0.out); (case side2 => exact HC0.out); rintro e w9 ⟨v446, rfl, ho0, hb⟩; refine ⟨_, rfl, ?_⟩; have HO447 := Yt.mk (Kd.Yb ho0 (Zk (Qa0))); replace HB := Yt.mk (Zm (Qa0) hb); (try clear hb); (try clear ho0); obtain ⟨Ao10, co10, eo10⟩ := Kd.Zx HO447.out; subst eo10; have p448 : 0 ≤ ((ji6) : Int) := Qd; have q448 : (ji6) < (t445.length : Int) := Qd; obtain ⟨ad448, e448, hx448_0⟩ := Kd.at_int (Kd.Zs HO447.out).2.2 (ji6) p448 q448; cases e448; replace p448 := eq_true p448; replace q448 := eq_true q448))
 go_loopg [4, 5] k (fun kq v4 v5 w' => ∃ (x4_1 : Int) (x5_1 : Int), v4 = .int .i64 x4_1 ∧ v5 = .int .u32 x5_1 ∧ Yt (r1_Bits.l0 kq x4_1 x5_1 = some r) ∧ Yt (kq ≤ k) ∧ Yt (Below w.heap.size w w'))
 case atStart => exact ⟨(wrap64 (32 * (ji6))), (rd t445 (ji6)), (by first | rfl | (simp; done) | (simp only [← hji6] <;> (first | rfl | simp)) | (simp [*]; done)), (by first | rfl | (simp; done) | (simp only [← hji6] <;> (first | rfl | simp)) | (simp [*]; done)), H', ⟨Nat.le_refl _⟩, ⟨Qa0⟩⟩
 case round =>
  clear H'
  try clear c2; try clear p2; try clear c3; try clear c3b0; try clear c3b1; try clear c3b2; try clear c4; try clear p4; try clear q4; try clear hx4; try clear p6; try clear c7; try clear c7b0; try clear c8; try clear c8b0; try clear hx448_0; try clear p448; try clear q448
  obtain ⟨x4_1, x5_1, rfl, rfl, HA, HK1, HB⟩ := hrel
  cases gk with
  | zero => exact absurd HA.out (by simp [r1_Bits.l0])
  | succ k1 =>
   have H := HA.out
   clear HA
   simp only [r1_Bits.l0] at H
   by_cases c11 : x5_1 > 0
   rotate_left
   ·rw [if_neg c11] at H
    have c11b0 : decide (0 < x5_1) = false := decide_eq_false c11
    clear c11
    obtain rfl := Option.some.inj H
    go_wp2
    go_ret
    exact ⟨by first | rfl | (simp [Zp, Zo] <;> rfl) | (simp only [← hji6]; first | rfl | (simp [Zp, Zo] <;> rfl)) | (simp [*, Zp, Zo] <;> rfl), Qa0⟩
   rw [if_pos c11] at H
   have c11b0 : decide (0 < x5_1) = true := decide_eq_true c11
   clear c11
   have H' := Yt.mk H
   clear H
   go_wp2
   go_roundg k1
   case measure => have := HK1.out; omega
   case rel => exact ⟨(wrap64 (x4_1 + 1)), ((Int.tdiv x5_1 2) % 4294967296), Qa5, Qa5, H', ⟨by have := HK1.out; omega⟩, ⟨Qa0⟩⟩
end Go.Proofs.Ytgffficaoioljaa.P
end
