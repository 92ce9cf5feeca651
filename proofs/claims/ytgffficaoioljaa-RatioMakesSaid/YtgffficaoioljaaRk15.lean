import Derived.Test.YtgffficaoioljaaRk11
import Derived.Outline
section
namespace Go.Proofs.Ytgffficaoioljaa.P
open Go.RowKit Go.Proofs.YtgffficaoioljaaW.PrintWords Go.Proofs.YtgffficaoioljaaW.PrintLast Go.Proofs.YtgffficaoioljaaW.PrintMore
set_option linter.unusedVariables false
set_option linter.unusedSimpArgs false
set_option maxHeartbeats 8000000
set_option maxRecDepth 100000
theorem seg_at {pre post : List Int} {c0 e base g n cap : Nat} {w : World} {ok : Nat → Prop} {xs : List Int} (h : Mine.SegR pre post c0 e w base ok (.slice (some ⟨g, pre.length, none⟩) n cap) xs) (i : Nat) (hi : i < n) :
  w.cell? ⟨g, pre.length + i, none⟩ = some (.int .u32 (rd xs (i : Int))) := by
 have := (Mine.seg_cells h (i : Int) (by omega) (by omega)).1
 rwa [Int.toNat_natCast] at this
theorem row_at {w : World} {ad : Addr} {n : Nat} {l : List Int} (h : (Kd.int .u32).C w (some ad) n l) (i : Nat) (hi : i < n) : w.cell? (ad.add i) = some (.int .u32 (rd l (i : Int))) := by
 have := Kd.foot_int h (i : Int) (by omega) (by omega)
 rwa [Int.toNat_natCast] at this
structure DgW (pre_ post_ : List Int) (cap_ : Nat) (ok_ : Nat → Prop) (g0 cp nu : Nat) (w0 w W : World) (l : List Int) : Prop where
 seg : Mine.SegR pre_ post_ cap_ 47 W w0.heap.size ok_ (.slice (some ⟨g0, pre_.length, none⟩) nu cp) l
 below : Below w0.heap.size w0 W
 kept : Kept w W (fun k_ => k_ = g0)
theorem DgW.drewN {pre_ post_ : List Int} {cap_ : Nat} {ok_ : Nat → Prop} {g0 cp nu : Nat} {w0 w W : World} {l : List Int} (h : DgW pre_ post_ cap_ ok_ g0 cp nu w0 w W l) (m : Nat) : DgW pre_ post_ cap_ ok_ g0 cp nu w0 w (W.drewN m) l :=
 ⟨Mine.seg_drewN h.seg m, ⟨h.below.os, h.below.tape, h.below.output, h.below.size, h.below.block⟩, Kept.drewN h.kept m⟩
theorem DgW.at {pre_ post_ : List Int} {cap_ : Nat} {ok_ : Nat → Prop} {g0 cp nu : Nat} {w0 w W : World} {l : List Int} (h : DgW pre_ post_ cap_ ok_ g0 cp nu w0 w W l) (i : Nat) (hi : i < nu) : W.cell? ⟨g0, pre_.length + i, none⟩ = some (.int .u32 (rd l (i : Int))) :=
 seg_at h.seg i hi
theorem DgW.row {pre_ post_ : List Int} {cap_ : Nat} {ok_ : Nat → Prop} {g0 cp nu : Nat} {w0 w W : World} {l : List Int} {ad : Addr} {l1 : List Int} (h : DgW pre_ post_ cap_ ok_ g0 cp nu w0 w W l)
  (hr : ∀ W_, Kept w W_ (fun k_ => k_ = g0) → Kd.C (Kd.int .u32) W_ (some ad) l1.length l1) (i : Nat) (hi : i < l1.length) : W.cell? (ad.add i) = some (.int .u32 (rd l1 (i : Int))) :=
 row_at (hr W h.kept) i hi
theorem DgW.put {pre_ post_ : List Int} {cap_ : Nat} {ok_ : Nat → Prop} {g0 cp nu : Nat} {w0 w W : World} {l : List Int} (h : DgW pre_ post_ cap_ ok_ g0 cp nu w0 w W l) (i : Nat) (hi : i < nu) (x : Int) :
  W.frozen? ⟨g0, pre_.length + i, none⟩ = false ∧ DgW pre_ post_ cap_ ok_ g0 cp nu w0 w (W.setCell ⟨g0, pre_.length + i, none⟩ (.int .u32 x)) (l.set i x) := by
 have hc := Mine.seg_cells h.seg (i : Int) (by omega) (by omega)
 have hp := Mine.seg_putg h.seg (i : Int) x (by omega) (by omega)
 obtain ⟨_, _, hv, hb, hl, _⟩ := Mine.seg_form h.seg (by have := Mine.seg_len h.seg; omega)
 simp only [Int.toNat_natCast] at hc hp
 injection hv with hv1
 injection hv1 with hv2
 injection hv2 with hv3
 subst hv3
 exact ⟨hc.2, hp.1, h.below.setCell hb _, h.kept.setCell (Or.inl rfl) _⟩
theorem nats_digit.seg (pre_ post_ : List Int) (cap_ : Nat) (k : Nat) (ok_ : Nat → Prop) (g0 cp : Nat) (l0 : List Int) (ad : Addr) (c1 : Nat) (l1 : List Int) (n nu m1 m2 : Nat) (hn : l1.length = n) (hu : l0.length = nu) (hnu : nu = n + 1) (hm1 : n = m1 + 1) (hm2 : n = m2 + 2) (r1 : Int) (r2 : List Int) (w0 w : World) (hB : Below w0.heap.size w0 w)
  (ho0 : Mine.SegR pre_ post_ cap_ 47 w w0.heap.size ok_ (.slice (some ⟨g0, pre_.length, none⟩) nu cp) l0)
  (hr1 : ∀ W_, Kept w W_ (fun k_ => k_ = g0) → Kd.C (Kd.int .u32) W_ (some ad) l1.length l1) (hc1 : l1.length ≤ c1) (hsz : n ≤ 70368744177664) (h : nats_digit.f k l0 l1 = some (r1, r2)) :
  Calls Try.prog 113 #[.slice (some ⟨g0, pre_.length, none⟩) nu cp, .slice (some ad) n c1] w fun e w' => e = .returned (.int .u32 r1) ∧ Mine.SegR pre_ post_ cap_ 47 w' w0.heap.size ok_ (.slice (some ⟨g0, pre_.length, none⟩) nu cp) r2 ∧ Below w0.heap.size w0 w' ∧ Kept w w' (fun k_ => k_ = g0) := by
 unfold nats_digit.f at h
 have e1 : wrap64 ((l1.length : Int) - 1) = (m1 : Int) := by rw [hn]; unfold wrap64; omega
 rw [e1, if_pos (by omega), if_pos (by omega), if_pos (by omega), if_pos (by omega), if_pos (by omega), hn] at h
 have HD := Yt.mk (show DgW pre_ post_ cap_ ok_ g0 cp nu w0 w w l0 from ⟨ho0, hB, Kept.refl _ _⟩)
 have hun := HD.out.at n (by omega)
 have hun1 := HD.out.at m1 (by omega)
 have hvn1 := HD.out.row hr1 m1 (by omega)
 have HR := Yt.mk hr1
 have E0 := Yt.mk hn
 have E1 := Yt.mk hu
 have E2 := Yt.mk hnu
 have E3 := Yt.mk hm1
 have E4 := Yt.mk hm2
 have f1 : m1 < n := by omega
 have f2 : m1 < nu := by omega
 have f3 : m2 < n := by omega
 have f4 : m2 < nu := by omega
 have f5 : n < nu := by omega
 have f6 : 2 ≤ n := by omega
 have i1 : ((n : Int) - 1) = (m1 : Int) := by omega
 have i2 : ((n : Int) - 2) = (m2 : Int) := by omega
 clear ho0 hB hr1 hn hu e1 hc1 hnu hm1 hm2
 by_cases hz : IntKind.u64.wrap (rd l1 (m1 : Int)) = 0
 ·rw [if_pos hz] at h; cases h
 ·rw [if_neg hz] at h
  have H := Yt.mk h
  clear h
  have hz1 : ((IntKind.u64.wrap (rd l1 (m1 : Int))) == 0) = false := beq_eq_false_iff_ne.mpr hz
  generalize rd l0 (n : Int) = x1 at *
  generalize rd l0 (m1 : Int) = x2 at *
  generalize hy1 : rd l1 (m1 : Int) = y1 at *
  have Hy1 := Yt.mk hy1
  clear hy1
  go_enter Try.func113, Try.ntmps113
  go_wp2
  go_quiet (fail)
  have HD2 := Yt.mk (HD.out.drewN nq)
  clear HD
  go_wp2
  go_quiet (fail)
  have HD3 := Yt.mk (HD2.out.drewN nq)
  clear HD2 hun hun1 hvn1
  go_upto_block 0 with (fail)
  go_cut [7] (fun v7 wc => ∃ (kq : Nat) (g : Int), v7 = .int .u64 g ∧ Yt (nats_digit.j2 kq l0 l1 (n : Int) g = some (r1, r2)) ∧ Yt (DgW pre_ post_ cap_ ok_ g0 cp nu w0 w wc l0))
  case first =>
   go_wp2
   go_loopg [7, 8] k (fun kq v7 v8 w' => ∃ g r : Int, v7 = .int .u64 g ∧ v8 = .int .u64 r ∧ Yt (nats_digit.l0 kq l0 l1 (n : Int) g r = some (r1, r2)) ∧ Yt (kq ≤ k) ∧ Yt (DgW pre_ post_ cap_ ok_ g0 cp nu w0 w w' l0))
   case atStart => exact ⟨_, _, rfl, rfl, H, ⟨Nat.le_refl _⟩, HD3⟩
   case round =>
    clear H HD3 hz hz1
    obtain ⟨g, r, rfl, rfl, HA, HK1, HD⟩ := hrel
    cases gk with
    | zero => exact absurd HA.out (by simp [nats_digit.l0])
    | succ k1 =>
     have H := HA.out
     clear HA
     simp only [nats_digit.l0] at H
     have e2 : wrap64 ((n : Int) - 2) = (m2 : Int) := by unfold wrap64; omega
     rw [e2] at H
     have hum2 := HD.out.at m2 f4
     have hvm2 := HD.out.row HR.out m2 (by have := E0.out; omega)
     have H' := Yt.mk H
     clear H e2
     go_upto_region 4 with (fail)
     go_cut [69] (fun v69 wc => ∃ (kq : Nat) (b : Bool), v69 = .bool b ∧ Yt (nats_digit.j1 kq l0 l1 (n : Int) g r b = some (r1, r2)) ∧ Yt (kq ≤ k1) ∧ Yt (DgW pre_ post_ cap_ ok_ g0 cp nu w0 w wc l0))
     case first =>
      by_cases c : g ≥ 4294967296
      ·have cb : decide (4294967296 ≤ g) = true := decide_eq_true c
       have H := H'.out
       rw [if_pos c] at H
       have H2 := Yt.mk H
       clear H c H'
       go_wp2
       go_quiet (fail)
       have HD' := Yt.mk (HD.out.drewN nq)
       clear HD
       go_wp2
       go_meet
       case rel => exact ⟨_, _, rfl, H2, ⟨Nat.le_refl _⟩, HD'⟩
      ·have cb : decide (4294967296 ≤ g) = false := decide_eq_false c
       have H := H'.out
       rw [if_neg c, if_pos (by omega), if_pos (by have := E0.out; omega), if_pos (by have := E1.out; omega)] at H
       have H2 := Yt.mk H
       clear H c H'
       go_wp2
       go_quiet (fail)
       have HD' := Yt.mk (HD.out.drewN nq)
       clear HD
       go_wp2
       go_meet
       case rel => exact ⟨_, _, rfl, H2, ⟨Nat.le_refl _⟩, HD'⟩
     case rest =>
      clear H' hum2 hvm2 HD
      obtain ⟨kq, b, rfl, HA, HJ, HD⟩ := hcut
      cases kq with
      | zero => exact absurd HA.out (by simp [nats_digit.j1])
      | succ k2 =>
       have H := HA.out
       clear HA
       simp only [nats_digit.j1] at H
       have e1 : wrap64 ((n : Int) - 1) = (m1 : Int) := by unfold wrap64; omega
       rw [e1] at H
       have hvm1 := HD.out.row HR.out m1 (by have := E0.out; omega)
       cases b with
       | false =>
        rw [if_neg (by decide)] at H
        have H2 := Yt.mk H
        clear H e1
        go_wp2
        go_meet
        case rel => exact ⟨_, _, rfl, H2, HD⟩
       | true =>
        rw [if_pos rfl, if_pos (by omega), if_pos (by have := E0.out; omega)] at H
        by_cases c : IntKind.u64.wrap (r + IntKind.u64.wrap (rd l1 (m1 : Int))) ≥ 4294967296
        ·have cb : decide (4294967296 ≤ IntKind.u64.wrap (r + IntKind.u64.wrap (rd l1 (m1 : Int)))) = true := decide_eq_true c
         rw [if_pos c] at H
         have H2 := Yt.mk H
         clear H e1 c
         go_wp2
         go_meet
         case rel => exact ⟨_, _, rfl, H2, HD⟩
        ·have cb : decide (4294967296 ≤ IntKind.u64.wrap (r + IntKind.u64.wrap (rd l1 (m1 : Int)))) = false := decide_eq_false c
         rw [if_neg c] at H
         have H2 := Yt.mk H
         clear H e1 c
         go_wp2
         go_roundg k2
         case measure => have := HK1.out; have := HJ.out; omega
         case rel => exact ⟨_, _, rfl, rfl, H2, ⟨by have := HK1.out; have := HJ.out; omega⟩, HD⟩
  case rest =>
   clear H HD3 hz hz1
   obtain ⟨kq, g, rfl, HA, HD⟩ := hcut
   cases kq with
   | zero => exact absurd HA.out (by simp [nats_digit.j2])
   | succ k1 =>
    have H := HA.out
    clear HA
    simp only [nats_digit.j2] at H
    have H' := Yt.mk H
    clear H
    go_wp2
    go_loopg [9, 10, 83] k1 (fun kq v9 v10 v83 w' => ∃ (l : List Int) (c9 c10 : Int) (i : Nat), v9 = .int .u64 c9 ∧ v10 = .int .u64 c10 ∧ v83 = .int .i64 (i : Int) ∧ Yt (nats_digit.l1 kq l l1 (n : Int) g c9 c10 (n : Int) (i : Int) = some (r1, r2)) ∧ Yt (kq ≤ k1) ∧ Yt (l.length = nu) ∧ Yt (DgW pre_ post_ cap_ ok_ g0 cp nu w0 w w' l))
    case atStart => exact ⟨_, _, _, 0, rfl, rfl, rfl, H', ⟨Nat.le_refl _⟩, E1, HD⟩
    case round =>
     clear H' HD
     obtain ⟨l, c9, c10, i, rfl, rfl, rfl, HA, HK1, HL, HD⟩ := hrel
     cases gk with
     | zero => exact absurd HA.out (by simp [nats_digit.l1])
     | succ k2 =>
      have H := HA.out
      clear HA
      simp only [nats_digit.l1] at H
      by_cases c : i < n
      ·have cb : decide (i < n) = true := decide_eq_true c
       have ci : decide ((i : Int) < (n : Int)) = true := decide_eq_true (by omega)
       have hiu : i < nu := by omega
       have e1 : wrap64 ((i : Int) + 1) = ((i + 1 : Nat) : Int) := by unfold wrap64; omega
       rw [if_pos (by omega), if_pos (by omega), if_pos (by have := E0.out; omega), if_pos (by have := HL.out; omega), e1, Int.toNat_natCast] at H
       have H2 := Yt.mk H
       clear H
       have hcu := HD.out.at i hiu
       have hcv := HD.out.row HR.out i (by have := E0.out; omega)
       have hfz := (HD.out.put i hiu 0).1
       go_wp2
       go_roundg k2
       case measure => have := HK1.out; omega
       case rel => exact ⟨_, _, _, i + 1, rfl, rfl, by first | rfl | (rw [e1]; done) | (rw [Yi, e1]; done) | (simp only [Yi, e1]; done), H2, ⟨by have := HK1.out; omega⟩, ⟨by rw [List.length_set]; exact HL.out⟩, ⟨(HD.out.put i hiu _).2⟩⟩
      ·have cb : decide (i < n) = false := decide_eq_false c
       have ci : decide ((i : Int) < (n : Int)) = false := decide_eq_false (by omega)
       rw [if_neg (by omega), if_pos (by omega), if_pos (by have := HL.out; omega)] at H
       simp only [Option.bind_some, Int.toNat_natCast] at H
       have hcu := HD.out.at n f5
       have hfz := (HD.out.put n f5 0).1
       by_cases ct : IntKind.u64.wrap (IntKind.u64.wrap (IntKind.u64.wrap (rd l (n : Int)) - c10) - c9) / 9223372036854775808 = 0
       ·rw [if_pos ct] at H
        have ctb : (IntKind.u64.wrap (IntKind.u64.wrap (IntKind.u64.wrap (rd l (n : Int)) - c10) - c9) / 9223372036854775808 == 0) = true := beq_iff_eq.mpr ct
        simp only [Option.some.injEq, Prod.mk.injEq] at H
        obtain ⟨rfl, rfl⟩ := H
        clear ct c
        go_wp2
        go_ret
        have h5 := (HD.out.put n f5 (IntKind.u64.wrap (IntKind.u64.wrap (IntKind.u64.wrap (rd l (n : Int)) - c10) - c9) % 4294967296)).2
        exact ⟨rfl, h5.seg, h5.below, h5.kept⟩
       ·rw [if_neg ct] at H
        have ctb : (IntKind.u64.wrap (IntKind.u64.wrap (IntKind.u64.wrap (rd l (n : Int)) - c10) - c9) / 9223372036854775808 == 0) = false := beq_eq_false_iff_ne.mpr ct
        have H2 := Yt.mk H
        have HD2 := Yt.mk (HD.out.put n f5 (IntKind.u64.wrap (IntKind.u64.wrap (IntKind.u64.wrap (rd l (n : Int)) - c10) - c9) % 4294967296)).2
        clear H ct c
        go_wp2
        go_loopg [15, 136] k2 (fun kq v15 v136 w' => ∃ (l : List Int) (c : Int) (i : Nat), v15 = .int .u32 c ∧ v136 = .int .i64 (i : Int) ∧ Yt (nats_digit.l2 kq l l1 (n : Int) g c (n : Int) (i : Int) = some (r1, r2)) ∧ Yt (kq ≤ k2) ∧ Yt (l.length = nu) ∧ Yt (DgW pre_ post_ cap_ ok_ g0 cp nu w0 w w' l))
        case atStart => exact ⟨_, _, 0, rfl, rfl, H2, ⟨Nat.le_refl _⟩, ⟨by rw [List.length_set]; exact HL.out⟩, HD2⟩
        case round =>
         clear H2 HD2 hcu hfz cb ci HD HL ctb
         obtain ⟨l, c, i, rfl, rfl, HA, HK2, HL, HD⟩ := hrel
         cases gk with
         | zero => exact absurd HA.out (by simp [nats_digit.l2])
         | succ k3 =>
          have H := HA.out
          clear HA
          simp only [nats_digit.l2] at H
          by_cases hin : i < n
          ·have cb : decide (i < n) = true := decide_eq_true hin
           have ci : decide ((i : Int) < (n : Int)) = true := decide_eq_true (by omega)
           have hiu : i < nu := by omega
           have e1 : wrap64 ((i : Int) + 1) = ((i + 1 : Nat) : Int) := by unfold wrap64; omega
           rw [if_pos (by omega), if_pos (by omega), if_pos (by have := HL.out; omega), if_pos (by have := E0.out; omega), e1, Int.toNat_natCast] at H
           obtain ⟨⟨s, c2⟩, hs, H⟩ := Option.bind_eq_some_iff.mp H
           simp only at H
           have H2 := Yt.mk H
           have HS := Yt.mk hs
           clear H hs
           have hcu := HD.out.at i hiu
           have hcv := HD.out.row HR.out i (by have := E0.out; omega)
           have hfz := (HD.out.put i hiu 0).1
           go_wp2
           go_region_with (go_at_call 115; refine (bits_Add32.calls _ _ _ _ _ _ HS.out).mono ?_; rintro e w' ⟨rfl, ⟨mq, rfl⟩⟩)
           all_goals
            go_wp2
            go_roundg k3
            case measure => have := HK2.out; omega
            case rel => exact ⟨_, _, i + 1, rfl, by first | rfl | (rw [e1]; done) | (rw [Yi, e1]; done) | (simp only [Yi, e1]; done), H2, ⟨by have := HK2.out; omega⟩, ⟨by rw [List.length_set]; exact HL.out⟩, ⟨((HD.out.drewN (1 + mq)).put i hiu s).2⟩⟩
          ·have cb : decide (i < n) = false := decide_eq_false hin
           have ci : decide ((i : Int) < (n : Int)) = false := decide_eq_false (by omega)
           rw [if_neg (by omega), if_pos (by omega), if_pos (by have := HL.out; omega)] at H
           simp only [Option.some.injEq, Prod.mk.injEq, Int.toNat_natCast] at H
           obtain ⟨rfl, rfl⟩ := H
           have hcu := HD.out.at n f5
           have hfz := (HD.out.put n f5 0).1
           go_wp2
           go_ret
           have h5 := (HD.out.put n f5 ((rd l (n : Int) + c) % 4294967296)).2
           exact ⟨rfl, h5.seg, h5.below, h5.kept⟩
end Go.Proofs.Ytgffficaoioljaa.P
end
section
namespace Go.Proofs.Ytgffficaoioljaa.P
open Go.RowKit Go.Proofs.YtgffficaoioljaaW.PrintWords Go.Proofs.YtgffficaoioljaaW.PrintLast Go.Proofs.YtgffficaoioljaaW.PrintMore
def nats_digitat.f (k : Nat) (l0 : List Int) (a1 a2 : Int) (l3 : List Int) : Option (Int × List Int) :=
 if 0 ≤ a1 ∧ a1 < a2 ∧ a2 ≤ (l0.length : Int) ∧ a2 = a1 + (l3.length : Int) + 1 ∧ 2 ≤ l3.length ∧ l3.length ≤ 70368744177664 then (nats_digit.f k ((l0.take a2.toNat).drop a1.toNat) l3).bind fun b => some (b.1, l0.take a1.toNat ++ b.2 ++ l0.drop a2.toNat) else none
theorem nats_digitat.mono : ∀ a0 a1 a2 a3 k, LeO (nats_digitat.f k a0 a1 a2 a3) (nats_digitat.f (k + 1) a0 a1 a2 a3) := by
 intro a0 a1 a2 a3 k
 unfold nats_digitat.f
 exact LeO.ite (LeO.bind (nats_digit.mono _ _ _) (fun _ => LeO.refl _)) (LeO.refl _)
theorem nats_digitat.calls (k : Nat) (P0_ : Nat → Prop) (u9000_ : Value) (l0 : List Int) (a1 a2 : Int) (A3 : Option Addr) (c3 : Nat) (l3 : List Int) (r1 : Int) (r2 : List Int) (w0 w : World) (hB : Below w0.heap.size w0 w)
  (ho0 : Kd.R (Kd.int .u32) 47 w w0.heap.size P0_ u9000_ l0) (hr3 : ∀ W_, Kept w W_ (fun k_ => P0_ k_) → Kd.C (Kd.int .u32) W_ A3 l3.length l3) (hc3 : l3.length ≤ c3) (h : nats_digitat.f k l0 a1 a2 l3 = some (r1, r2)) :
  Calls Try.prog 113 #[Mine.segV u9000_ a1 a2, .slice A3 l3.length c3] w fun e w' => e = .returned (.int .u32 r1) ∧ Kd.R (Kd.int .u32) 47 w' w0.heap.size (fun k_ => (P0_ k_ ∨ w.heap.size ≤ k_)) u9000_ r2 ∧ Below w0.heap.size w0 w' ∧ Kept w w' (fun k_ => P0_ k_) := by
 unfold nats_digitat.f at h
 by_cases c : 0 ≤ a1 ∧ a1 < a2 ∧ a2 ≤ (l0.length : Int) ∧ a2 = a1 + (l3.length : Int) + 1 ∧ 2 ≤ l3.length ∧ l3.length ≤ 70368744177664
 ·rw [if_pos c] at h
  obtain ⟨b, hb, he⟩ := Option.bind_eq_some_iff.mp h
  obtain ⟨b1, b2⟩ := b
  simp only [Option.some.injEq, Prod.mk.injEq] at he
  obtain ⟨rfl, rfl⟩ := he
  obtain ⟨q1, q2, q3, q4, q5, q6⟩ := c
  obtain ⟨c0, g, rfl, hseg⟩ := Mine.seg_of_R a1 a2 q1 q2 q3 ho0
  have hlen0 : ((l0.take a2.toNat).drop a1.toNat).length = l3.length + 1 := by rw [List.length_drop, List.length_take]; omega
  have hpl : (l0.take a1.toNat).length = a1.toNat := by rw [List.length_take]; omega
  obtain ⟨ad, hA, -⟩ := (Kd.reads_of_C (d := (0 : Int)) (hr3 w (Kept.refl _ _))).2.2 (by omega)
  subst hA
  have hg : P0_ g := hseg.1 g (by simp [Mine.segV, Value.ownBlock])
  have hv : Mine.segV (.slice (some ⟨g, 0, none⟩) l0.length c0) a1 a2 = .slice (some ⟨g, (l0.take a1.toNat).length, none⟩) (l3.length + 1) (c0 - a1.toNat) := by
   rw [hpl]
   simp only [Mine.segV]
   rw [show a2.toNat - a1.toNat = l3.length + 1 from by omega]
  rw [hv] at hseg ⊢
  refine (nats_digit.seg _ _ c0 k P0_ g (c0 - a1.toNat) _ ad c3 l3 l3.length (l3.length + 1) (l3.length - 1) (l3.length - 2) rfl hlen0 rfl (by omega) (by omega) b1 b2 w0 w hB hseg (fun W_ hk => hr3 W_ (Kept.mono hk (fun k_ he => by rw [he]; exact hg))) hc3 q6 hb).mono ?_
  rintro e w' ⟨rfl, hs, hb', hk⟩
  have hlen := Mine.seg_len hs
  refine ⟨rfl, Mine.R_of_seg (Mine.seg_mono hs (fun k_ hk => Or.inl hk)) rfl ?_, hb', Kept.mono hk (fun k_ he => by rw [he]; exact hg)⟩
  simp only [List.length_append, List.length_take, List.length_drop, hlen]
  omega
 ·rw [if_neg c] at h
  cases h
end Go.Proofs.Ytgffficaoioljaa.P
end
