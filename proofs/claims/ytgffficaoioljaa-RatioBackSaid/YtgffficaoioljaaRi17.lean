import Derived.Test.YtgffficaoioljaaRi11
import Derived.Test.YtgffficaoioljaaRi12
import Derived.Test.YtgffficaoioljaaRi16
section
namespace Go.Proofs.Ytgffficaoioljaa.P
open Go.RowKit Go.Proofs.YtgffficaoioljaaW.PrintWords Go.Proofs.YtgffficaoioljaaW.PrintLast Go.Proofs.YtgffficaoioljaaW.PrintMore
attribute [local go_sem] max2_int min2_int max_two min_two max_three min_three max_four min_four
set_option linter.unusedVariables false
set_option linter.unusedSimpArgs false
def ratio_add.f (k : Nat) (a0_0 : Bool) (l0_1 : List Int) (l0_2 : List Int) (a1_0 : Bool) (l1_1 : List Int) (l1_2 : List Int) : Option (Bool × List Int × List Int × Int) := (nats_Mul.f k l0_1 l1_2).bind fun t1091 => ((nats_Mul.f k l1_1 l0_2).bind fun t1094 => ((nats_Mul.f k l0_2 l1_2).bind fun t1097 => (if (a0_0 == a1_0) = true then ((nats_Add.f k t1091 t1094).bind fun t1100 => ((ratio_Make.f k a0_0 t1100 t1097).bind fun bt1103 => (some (bt1103.1, bt1103.2.1, bt1103.2.2.1, bt1103.2.2.2)))) else ((nats_Cmp.f k t1091 t1094).bind fun t1111 => (if t1111 < 0 then ((nats_Sub.f k t1094 t1091).bind fun t1112 => ((ratio_Make.f k a1_0 t1112 t1097).bind fun bt1115 => (some (bt1115.1, bt1115.2.1, bt1115.2.2.1, bt1115.2.2.2)))) else ((nats_Sub.f k t1091 t1094).bind fun t1123 => ((ratio_Make.f k a0_0 t1123 t1097).bind fun bt1126 => (some (bt1126.1, bt1126.2.1, bt1126.2.2.1, bt1126.2.2.2)))))))))
theorem ratio_add.mono : ∀ a0 a1 a2 a3 a4 a5 k, LeO (ratio_add.f k a0 a1 a2 a3 a4 a5) (ratio_add.f (k + 1) a0 a1 a2 a3 a4 a5) := by
 intro a0 a1 a2 a3 a4 a5 k
 unfold ratio_add.f
 repeat' first
   | (with_reducible exact nats_Add.mono _ _ _)
   | (with_reducible exact nats_Cmp.mono _ _ _)
   | (with_reducible exact nats_Mul.mono _ _ _)
   | (with_reducible exact nats_Sub.mono _ _ _)
   | (with_reducible exact ratio_Make.mono _ _ _ _)
   | (with_reducible exact LeO.refl _)
   | (with_reducible exact LeO.none _)
   | (with_reducible refine LeO.ite ?_ ?_)
   | (with_reducible refine LeO.bind ?_ (fun _ => ?_))
   | exact nats_Add.mono _ _ _
   | exact nats_Cmp.mono _ _ _
   | exact nats_Mul.mono _ _ _
   | exact nats_Sub.mono _ _ _
   | exact ratio_Make.mono _ _ _ _
   | exact LeO.none _
   | refine LeO.ite ?_ ?_
   | refine LeO.bind ?_ (fun _ => ?_)
def ratio_add.T1 : Bool × List (List Nat × List Nat) := (true, [([], []), ([0], [0]), ([], []), ([2], [2]), ([1, 3], [1, 3]), ([], []), ([5], [5]), ([], []), ([7], [7]), ([6, 8, 4], [6, 8]), ([], []), ([10], [10]), ([], []), ([12], [12]), ([11, 13, 9], [11, 13]), ([4, 14, 0, 1, 2, 3, 4], [4]), ([9, 15, 0, 1, 2, 3, 4, 5, 6, 7, 8, 9, 15], [9]), ([14, 16, 0, 1, 2, 3, 4, 5, 6, 7, 8, 9, 10, 11, 12, 13, 14, 15, 16], [14])])
def ratio_add.B1 : List Nat := [0, 1, 0, 4, 15, 0, 32, 0, 128, 511, 0, 1024, 0, 4096, 16383, 32767, 65535, 131071]
theorem ratio_add.tab1 : rtab .any (opsOf Try.f106 1) = ratio_add.T1 := by kernel_rfl
theorem ratio_add.bits1 : waitsOk ratio_add.T1.2 ratio_add.B1 = true := by kernel_rfl
def ratio_add.T3 : Bool × List (List Nat × List Nat) := (true, [([], []), ([0], [0]), ([], []), ([], []), ([2, 3], [2, 3]), ([], []), ([1, 4, 5, 4], [1, 4, 5]), ([6], [6]), ([6], [6]), ([7, 6, 0, 1, 2, 3, 4, 5, 6, 7, 8], [7]), ([8, 9, 0, 1, 2, 3, 4, 5, 6, 7, 8, 9], [8])])
def ratio_add.B3 : List Nat := [0, 1, 0, 0, 12, 0, 63, 127, 127, 511, 1023]
theorem ratio_add.tab3 : rtab .any (opsOf Try.f106 3) = ratio_add.T3 := by kernel_rfl
theorem ratio_add.bits3 : waitsOk ratio_add.T3.2 ratio_add.B3 = true := by kernel_rfl
def ratio_add.T5 : Bool × List (List Nat × List Nat) := (true, [([], []), ([0], [0]), ([], []), ([], []), ([2, 3], [2, 3]), ([], []), ([1, 4, 5, 4], [1, 4, 5]), ([6], [6]), ([6], [6]), ([7, 6, 0, 1, 2, 3, 4, 5, 6, 7, 8], [7]), ([8, 9, 0, 1, 2, 3, 4, 5, 6, 7, 8, 9], [8])])
def ratio_add.B5 : List Nat := [0, 1, 0, 0, 12, 0, 63, 127, 127, 511, 1023]
theorem ratio_add.tab5 : rtab .any (opsOf Try.f106 5) = ratio_add.T5 := by kernel_rfl
theorem ratio_add.bits5 : waitsOk ratio_add.T5.2 ratio_add.B5 = true := by kernel_rfl
def ratio_add.T6 : Bool × List (List Nat × List Nat) := (true, [([], []), ([0], [0]), ([], []), ([], []), ([2, 3], [2, 3]), ([], []), ([1, 4, 5, 4], [1, 4, 5]), ([6], [6]), ([6], [6]), ([7, 6, 0, 1, 2, 3, 4, 5, 6, 7, 8], [7]), ([8, 9, 0, 1, 2, 3, 4, 5, 6, 7, 8, 9], [8])])
def ratio_add.B6 : List Nat := [0, 1, 0, 0, 12, 0, 63, 127, 127, 511, 1023]
theorem ratio_add.tab6 : rtab .any (opsOf Try.f106 6) = ratio_add.T6 := by kernel_rfl
theorem ratio_add.bits6 : waitsOk ratio_add.T6.2 ratio_add.B6 = true := by kernel_rfl
set_option maxHeartbeats 8000000 in
set_option maxRecDepth 100000 in
theorem ratio_add.calls (k : Nat) (a0_0 : Bool) (A0_1 : Option Addr) (c0_1 : Nat) (l0_1 : List Int) (A0_2 : Option Addr) (c0_2 : Nat) (l0_2 : List Int) (a1_0 : Bool) (A1_1 : Option Addr) (c1_1 : Nat) (l1_1 : List Int) (A1_2 : Option Addr) (c1_2 : Nat) (l1_2 : List Int) (r1 : Bool) (r2 : List Int) (r3 : List Int) (r4 : Int) (w : World) (hr0_1 : Kd.C (Kd.int .u32) w A0_1 l0_1.length l0_1) (hc0_1 : l0_1.length ≤ c0_1) (hr0_2 : Kd.C (Kd.int .u32) w A0_2 l0_2.length l0_2) (hc0_2 : l0_2.length ≤ c0_2) (hr1_1 : Kd.C (Kd.int .u32) w A1_1 l1_1.length l1_1) (hc1_1 : l1_1.length ≤ c1_1) (hr1_2 : Kd.C (Kd.int .u32) w A1_2 l1_2.length l1_2) (hc1_2 : l1_2.length ≤ c1_2) (h : ratio_add.f k a0_0 l0_1 l0_2 a1_0 l1_1 l1_2 = some (r1, r2, r3, r4)) :
  Calls Try.prog 106 #[.agg #[.bool a0_0, .slice A0_1 l0_1.length c0_1, .slice A0_2 l0_2.length c0_2], .agg #[.bool a1_0, .slice A1_1 l1_1.length c1_1, .slice A1_2 l1_2.length c1_2]] w fun e w' => ∃ v1_ v2_ : Value, e = .returned (.tuple #[.agg #[.bool r1, v1_, v2_], .int .i64 r4]) ∧ Kd.R (Kd.int .u32) 47 w' w.heap.size (fun k_ => some k_ ≠ (v2_ : Value).ownBlock) v1_ r2 ∧ Kd.R (Kd.int .u32) 47 w' w.heap.size (fun k_ => some k_ ≠ (v1_ : Value).ownBlock) v2_ r3 ∧ Below w.heap.size w w' := by
 have hu50 := Try.underlying50
 have HR0_1 := Yt.mk hr0_1
 have HC0_1 := Yt.mk hc0_1
 clear hr0_1 hc0_1
 have HR0_2 := Yt.mk hr0_2
 have HC0_2 := Yt.mk hc0_2
 clear hr0_2 hc0_2
 have HR1_1 := Yt.mk hr1_1
 have HC1_1 := Yt.mk hc1_1
 clear hr1_1 hc1_1
 have HR1_2 := Yt.mk hr1_2
 have HC1_2 := Yt.mk hc1_2
 clear hr1_2 hc1_2
 have HB := Yt.mk (Below.refl w.heap.size w)
 have H : ((nats_Mul.f k l0_1 l1_2).bind fun t1091 => ((nats_Mul.f k l1_1 l0_2).bind fun t1094 => ((nats_Mul.f k l0_2 l1_2).bind fun t1097 => (if (a0_0 == a1_0) = true then ((nats_Add.f k t1091 t1094).bind fun t1100 => ((ratio_Make.f k a0_0 t1100 t1097).bind fun bt1103 => (some (bt1103.1, bt1103.2.1, bt1103.2.2.1, bt1103.2.2.2)))) else ((nats_Cmp.f k t1091 t1094).bind fun t1111 => (if t1111 < 0 then ((nats_Sub.f k t1094 t1091).bind fun t1112 => ((ratio_Make.f k a1_0 t1112 t1097).bind fun bt1115 => (some (bt1115.1, bt1115.2.1, bt1115.2.2.1, bt1115.2.2.2)))) else ((nats_Sub.f k t1091 t1094).bind fun t1123 => ((ratio_Make.f k a0_0 t1123 t1097).bind fun bt1126 => (some (bt1126.1, bt1126.2.1, bt1126.2.2.1, bt1126.2.2.2)))))))))) = some (r1, r2, r3, r4) := h
 clear h
 replace H := Option.bind_eq_some_iff.mp H
 obtain ⟨t1091, A30, H⟩ := H
 try dsimp only at H
 have A3 := Yt.mk A30
 clear A30
 replace H := Option.bind_eq_some_iff.mp H
 obtain ⟨t1094, A40, H⟩ := H
 try dsimp only at H
 have A4 := Yt.mk A40
 clear A40
 replace H := Option.bind_eq_some_iff.mp H
 obtain ⟨t1097, A50, H⟩ := H
 try dsimp only at H
 have A5 := Yt.mk A50
 clear A50
 by_cases c6 : (a0_0 == a1_0) = true
 ·rw [if_pos c6] at H
  have c6b0 : (a0_0 == a1_0) = true := c6
  (try (have c6b1 : decide (a0_0 = a1_0) = true := by simpa using c6))
  (try (have c6b2 : (a0_0 == a1_0) = true := by simpa using c6))
  clear c6
  replace H := Option.bind_eq_some_iff.mp H
  obtain ⟨t1100, A70, H⟩ := H
  try dsimp only at H
  have A7 := Yt.mk A70
  clear A70
  replace H := Option.bind_eq_some_iff.mp H
  obtain ⟨⟨t1103, t1104, t1107, t1110⟩, A80, H⟩ := H
  replace H : (some (t1103, t1104, t1107, t1110)) = some (r1, r2, r3, r4) := H
  have A8 := Yt.mk A80
  clear A80
  simp only [Option.some.injEq, Prod.mk.injEq] at H
  obtain ⟨rfl, rfl, rfl, rfl⟩ := H
  go_enter Try.func106, Try.ntmps106
  try go_wp2_with (first | ((with_reducible refine Yk (N := 2) rfl ?_); refine Yo ?hg (N := 2) ?hd (cs := #[.bool a0_0, .slice A0_1 l0_1.length c0_1, .slice A0_2 l0_2.length c0_2]) (t := 50) ?hr ?_; (case hd => rfl); (case hg => rfl); (case hr => first | (go_simp; done) | (go_simp; rfl)); intro gb1088 hg w9 hbox hb; have n0_ := Yt.mk (Zm (by repeat (first | (with_reducible first | exact HB.out | apply Zb | apply Za | apply Zc) | exact HB.out)) hb); have n1_ := Yt.mk (hbox); have n2_ := Yt.mk ((by rw [hg]; exact (Zk (by repeat (first | (with_reducible first | exact HB.out | apply Zb | apply Za | apply Zc) | exact HB.out))) : w.heap.size ≤ gb1088)); have n3_ := Yt.mk ((by rw [hg]; exact (Zk (by repeat (first | (with_reducible first | exact HB.out | apply Zb | apply Za | apply Zc) | exact HB.out))) : w.heap.size ≤ gb1088)); clear HB; have HB := n0_; have BK1088 := n1_; have GW1088 := n2_; have GE1088 := n3_; clear n0_ n1_ n2_ n3_; clear hb hbox hg) | ((with_reducible refine Yk (N := 3) rfl ?_); refine Yo ?hg (N := 3) ?hd (cs := #[.bool a1_0, .slice A1_1 l1_1.length c1_1, .slice A1_2 l1_2.length c1_2]) (t := 50) ?hr ?_; (case hd => rfl); (case hg => rfl); (case hr => first | (go_simp; done) | (go_simp; rfl)); intro gb1089 hg w10 hbox hb; have n0_ := Yt.mk (Zq (g := gb1088) (o := .cells #[.bool a0_0, .slice A0_1 l0_1.length c0_1, .slice A0_2 l0_2.length c0_2] 50 (0, 0)) (by (with_reducible repeat (first | refine Zg ?_ _ | refine Zi ?_ | refine Zh ?_ _)); exact BK1088.out) hb); have n1_ := Yt.mk (Zm (by repeat (first | (with_reducible first | exact HB.out | apply Zb | apply Za | apply Zc | refine Zd ?_ GE1088.out) | exact HB.out)) hb); have n2_ := Yt.mk (hbox); have n3_ := Yt.mk ((by rw [hg]; exact (Zk (by repeat (first | (with_reducible first | exact HB.out | apply Zb | apply Za | apply Zc | refine Zd ?_ GE1088.out) | exact HB.out))) : w.heap.size ≤ gb1089)); have n4_ := Yt.mk ((by rw [hg]; exact (Zk (by repeat (first | (with_reducible first | exact HB.out | apply Zb | apply Za | apply Zc | refine Zd ?_ GE1088.out) | exact HB.out))) : w.heap.size ≤ gb1089)); have n5_ := Yt.mk ((by rw [hg]; exact Nat.ne_of_lt (blk_lt (g := gb1088) (o := .cells #[.bool a0_0, .slice A0_1 l0_1.length c0_1, .slice A0_2 l0_2.length c0_2] 50 (0, 0)) (by (with_reducible repeat (first | refine Zg ?_ _ | refine Zi ?_ | refine Zh ?_ _)); exact BK1088.out)) : gb1088 ≠ gb1089)); have n6_ := Yt.mk ((by rw [hg]; exact Nat.ne_of_gt (blk_lt (g := gb1088) (o := .cells #[.bool a0_0, .slice A0_1 l0_1.length c0_1, .slice A0_2 l0_2.length c0_2] 50 (0, 0)) (by (with_reducible repeat (first | refine Zg ?_ _ | refine Zi ?_ | refine Zh ?_ _)); exact BK1088.out)) : gb1089 ≠ gb1088)); clear BK1088; clear HB; have BK1088 := n0_; have HB := n1_; have BK1089 := n2_; have GW1089 := n3_; have GE1089 := n4_; have NB1088_1089 := n5_; have NB1089_1088 := n6_; clear n0_ n1_ n2_ n3_ n4_ n5_ n6_; clear hb hbox hg) | ((with_reducible refine Yk (N := 4) rfl ?_); refine Yo ?hg (N := 4) ?hd (cs := #[.bool false, .slice none 0 0, .slice none 0 0]) (t := 50) ?hr ?_; (case hd => rfl); (case hg => rfl); (case hr => first | (go_simp; done) | (go_simp; rfl)); intro gb1090 hg w11 hbox hb; have n0_ := Yt.mk (Zq (g := gb1088) (o := .cells #[.bool a0_0, .slice A0_1 l0_1.length c0_1, .slice A0_2 l0_2.length c0_2] 50 (0, 0)) (by (with_reducible repeat (first | refine Zg ?_ _ | refine Zi ?_ | refine Zh ?_ _)); exact BK1088.out) hb); have n1_ := Yt.mk (Zq (g := gb1089) (o := .cells #[.bool a1_0, .slice A1_1 l1_1.length c1_1, .slice A1_2 l1_2.length c1_2] 50 (0, 0)) (by (with_reducible repeat (first | refine Zg ?_ _ | refine Zi ?_ | refine Zh ?_ _)); exact BK1089.out) hb); have n2_ := Yt.mk (Zm (by repeat (first | (with_reducible first | exact HB.out | apply Zb | apply Za | apply Zc | refine Zd ?_ GE1088.out | refine Zd ?_ GE1089.out) | exact HB.out)) hb); have n3_ := Yt.mk (hbox); have n4_ := Yt.mk ((by rw [hg]; exact (Zk (by repeat (first | (with_reducible first | exact HB.out | apply Zb | apply Za | apply Zc | refine Zd ?_ GE1088.out | refine Zd ?_ GE1089.out) | exact HB.out))) : w.heap.size ≤ gb1090)); have n5_ := Yt.mk ((by rw [hg]; exact (Zk (by repeat (first | (with_reducible first | exact HB.out | apply Zb | apply Za | apply Zc | refine Zd ?_ GE1088.out | refine Zd ?_ GE1089.out) | exact HB.out))) : w.heap.size ≤ gb1090)); have n6_ := Yt.mk ((by rw [hg]; exact Nat.ne_of_lt (blk_lt (g := gb1088) (o := .cells #[.bool a0_0, .slice A0_1 l0_1.length c0_1, .slice A0_2 l0_2.length c0_2] 50 (0, 0)) (by (with_reducible repeat (first | refine Zg ?_ _ | refine Zi ?_ | refine Zh ?_ _)); exact BK1088.out)) : gb1088 ≠ gb1090)); have n7_ := Yt.mk ((by rw [hg]; exact Nat.ne_of_gt (blk_lt (g := gb1088) (o := .cells #[.bool a0_0, .slice A0_1 l0_1.length c0_1, .slice A0_2 l0_2.length c0_2] 50 (0, 0)) (by (with_reducible repeat (first | refine Zg ?_ _ | refine Zi ?_ | refine Zh ?_ _)); exact BK1088.out)) : gb1090 ≠ gb1088)); have n8_ := Yt.mk ((by rw [hg]; exact Nat.ne_of_lt (blk_lt (g := gb1089) (o := .cells #[.bool a1_0, .slice A1_1 l1_1.length c1_1, .slice A1_2 l1_2.length c1_2] 50 (0, 0)) (by (with_reducible repeat (first | refine Zg ?_ _ | refine Zi ?_ | refine Zh ?_ _)); exact BK1089.out)) : gb1089 ≠ gb1090)); have n9_ := Yt.mk ((by rw [hg]; exact Nat.ne_of_gt (blk_lt (g := gb1089) (o := .cells #[.bool a1_0, .slice A1_1 l1_1.length c1_1, .slice A1_2 l1_2.length c1_2] 50 (0, 0)) (by (with_reducible repeat (first | refine Zg ?_ _ | refine Zi ?_ | refine Zh ?_ _)); exact BK1089.out)) : gb1090 ≠ gb1089)); clear BK1088; clear BK1089; clear HB; have BK1088 := n0_; have BK1089 := n1_; have HB := n2_; have BK1090 := n3_; have GW1090 := n4_; have GE1090 := n5_; have NB1088_1090 := n6_; have NB1090_1088 := n7_; have NB1089_1090 := n8_; have NB1090_1089 := n9_; clear n0_ n1_ n2_ n3_ n4_ n5_ n6_ n7_ n8_ n9_; clear hb hbox hg))
  have n0_ := Yt.mk (Zi BK1088.out)
  have n1_ := Yt.mk (Zi BK1089.out)
  have n2_ := Yt.mk (Zi BK1090.out)
  have n3_ := Yt.mk (Zc HB.out)
  clear BK1088
  clear BK1089
  clear BK1090
  clear HB
  have BK1088 := n0_
  have BK1089 := n1_
  have BK1090 := n2_
  have HB := n3_
  clear n0_ n1_ n2_ n3_
  refine start_ (n := 18) (S := fun w' => w'.cell? ⟨gb1088, 0, none⟩ = some (.bool a0_0) ∧ w'.cell? ⟨gb1088, 1, none⟩ = some (.slice A0_1 l0_1.length c0_1) ∧ w'.cell? ⟨gb1088, 2, none⟩ = some (.slice A0_2 l0_2.length c0_2) ∧ w'.cell? ⟨gb1089, 0, none⟩ = some (.bool a1_0) ∧ w'.cell? ⟨gb1089, 1, none⟩ = some (.slice A1_1 l1_1.length c1_1) ∧ w'.cell? ⟨gb1089, 2, none⟩ = some (.slice A1_2 l1_2.length c1_2)) (ds := []) #[false, false, false, false, false, false, false, false, false, false, false, false, false, false, false, false, false, false] (by kernel_rfl) rfl rfl ⟨(Zl BK1088.out 0).trans rfl, (Zl BK1088.out 1).trans rfl, (Zl BK1088.out 2).trans rfl, (Zl BK1089.out 0).trans rfl, (Zl BK1089.out 1).trans rfl, (Zl BK1089.out 2).trans rfl⟩ (fun hHeld => ?_); refine with_tabW ratio_add.tab1 ratio_add.bits1 (fun HT_ HW_ => ?_)
  generalize w11.drew = w12 at BK1088 BK1089 BK1090 HB hHeld ⊢
  refine pure_ (i := 0) (N := some 9) (v := ?_) (a' := ?_) #[true, false, false, false, false, false, false, false, false, false, false, false, false, false, false, false, false, false] rfl rfl (any_of HT_.out (by kernel_rfl)) (fun _ _ _ h => h) (Or.inl ⟨by rfl, ?_⟩) ?_ ?_
  rotate_left
  ·intro w'
   go_simp
   with_reducible rfl
  rotate_left
  ·simp only [Act.put, List.setIfInBounds_toArray, List.set_cons_zero, List.set_cons_succ, Yi, Yj]
   rfl
  refine pure_ (i := 2) (N := some 11) (v := ?_) (a' := ?_) #[true, false, true, false, false, false, false, false, false, false, false, false, false, false, false, false, false, false] rfl rfl (any_of HT_.out (by kernel_rfl)) (fun _ _ _ h => h) (Or.inl ⟨by rfl, ?_⟩) ?_ ?_
  rotate_left
  ·intro w'
   go_simp
   with_reducible rfl
  rotate_left
  ·simp only [Act.put, List.setIfInBounds_toArray, List.set_cons_zero, List.set_cons_succ, Yi, Yj]
   rfl
  refine pure_ (i := 5) (N := some 14) (v := ?_) (a' := ?_) #[true, false, true, false, false, true, false, false, false, false, false, false, false, false, false, false, false, false] rfl rfl (any_of HT_.out (by kernel_rfl)) (fun _ _ _ h => h) (Or.inl ⟨by rfl, ?_⟩) ?_ ?_
  rotate_left
  ·intro w'
   go_simp
   with_reducible rfl
  rotate_left
  ·simp only [Act.put, List.setIfInBounds_toArray, List.set_cons_zero, List.set_cons_succ, Yi, Yj]
   rfl
  refine pure_ (i := 7) (N := some 16) (v := ?_) (a' := ?_) #[true, false, true, false, false, true, false, true, false, false, false, false, false, false, false, false, false, false] rfl rfl (any_of HT_.out (by kernel_rfl)) (fun _ _ _ h => h) (Or.inl ⟨by rfl, ?_⟩) ?_ ?_
  rotate_left
  ·intro w'
   go_simp
   with_reducible rfl
  rotate_left
  ·simp only [Act.put, List.setIfInBounds_toArray, List.set_cons_zero, List.set_cons_succ, Yi, Yj]
   rfl
  refine pure_ (i := 10) (N := some 19) (v := ?_) (a' := ?_) #[true, false, true, false, false, true, false, true, false, false, true, false, false, false, false, false, false, false] rfl rfl (any_of HT_.out (by kernel_rfl)) (fun _ _ _ h => h) (Or.inl ⟨by rfl, ?_⟩) ?_ ?_
  rotate_left
  ·intro w'
   go_simp
   with_reducible rfl
  rotate_left
  ·simp only [Act.put, List.setIfInBounds_toArray, List.set_cons_zero, List.set_cons_succ, Yi, Yj]
   rfl
  refine pure_ (i := 12) (N := some 21) (v := ?_) (a' := ?_) #[true, false, true, false, false, true, false, true, false, false, true, false, true, false, false, false, false, false] rfl rfl (any_of HT_.out (by kernel_rfl)) (fun _ _ _ h => h) (Or.inl ⟨by rfl, ?_⟩) ?_ ?_
  rotate_left
  ·intro w'
   go_simp
   with_reducible rfl
  rotate_left
  ·simp only [Act.put, List.setIfInBounds_toArray, List.set_cons_zero, List.set_cons_succ, Yi, Yj]
   rfl
  refine take_ (i := 1) (N := some 10) (v := ?_) (a' := ?_) #[true, true, true, false, false, true, false, true, false, false, true, false, true, false, false, false, false, false] rfl rfl (take_ofW HT_.out HW_.out (by kernel_rfl)) (fun _ _ _ h => h) (Or.inl ⟨by rfl, ?_⟩) hHeld ?_ ?_
  rotate_left
  ·rintro w' ⟨s0, s1, s2, s3, s4, s5⟩
   go_simp
   with_reducible rfl
  rotate_left
  ·simp only [Act.put, List.setIfInBounds_toArray, List.set_cons_zero, List.set_cons_succ, Yi, Yj]
   rfl
  refine take_ (i := 3) (N := some 12) (v := ?_) (a' := ?_) #[true, true, true, true, false, true, false, true, false, false, true, false, true, false, false, false, false, false] rfl rfl (take_ofW HT_.out HW_.out (by kernel_rfl)) (fun _ _ _ h => h) (Or.inl ⟨by rfl, ?_⟩) hHeld ?_ ?_
  rotate_left
  ·rintro w' ⟨s0, s1, s2, s3, s4, s5⟩
   go_simp
   with_reducible rfl
  rotate_left
  ·simp only [Act.put, List.setIfInBounds_toArray, List.set_cons_zero, List.set_cons_succ, Yi, Yj]
   rfl
  refine take_ (i := 6) (N := some 15) (v := ?_) (a' := ?_) #[true, true, true, true, false, true, true, true, false, false, true, false, true, false, false, false, false, false] rfl rfl (take_ofW HT_.out HW_.out (by kernel_rfl)) (fun _ _ _ h => h) (Or.inl ⟨by rfl, ?_⟩) hHeld ?_ ?_
  rotate_left
  ·rintro w' ⟨s0, s1, s2, s3, s4, s5⟩
   go_simp
   with_reducible rfl
  rotate_left
  ·simp only [Act.put, List.setIfInBounds_toArray, List.set_cons_zero, List.set_cons_succ, Yi, Yj]
   rfl
  refine take_ (i := 8) (N := some 17) (v := ?_) (a' := ?_) #[true, true, true, true, false, true, true, true, true, false, true, false, true, false, false, false, false, false] rfl rfl (take_ofW HT_.out HW_.out (by kernel_rfl)) (fun _ _ _ h => h) (Or.inl ⟨by rfl, ?_⟩) hHeld ?_ ?_
  rotate_left
  ·rintro w' ⟨s0, s1, s2, s3, s4, s5⟩
   go_simp
   with_reducible rfl
  rotate_left
  ·simp only [Act.put, List.setIfInBounds_toArray, List.set_cons_zero, List.set_cons_succ, Yi, Yj]
   rfl
  refine take_ (i := 11) (N := some 20) (v := ?_) (a' := ?_) #[true, true, true, true, false, true, true, true, true, false, true, true, true, false, false, false, false, false] rfl rfl (take_ofW HT_.out HW_.out (by kernel_rfl)) (fun _ _ _ h => h) (Or.inl ⟨by rfl, ?_⟩) hHeld ?_ ?_
  rotate_left
  ·rintro w' ⟨s0, s1, s2, s3, s4, s5⟩
   go_simp
   with_reducible rfl
  rotate_left
  ·simp only [Act.put, List.setIfInBounds_toArray, List.set_cons_zero, List.set_cons_succ, Yi, Yj]
   rfl
  refine take_ (i := 13) (N := some 22) (v := ?_) (a' := ?_) #[true, true, true, true, false, true, true, true, true, false, true, true, true, true, false, false, false, false] rfl rfl (take_ofW HT_.out HW_.out (by kernel_rfl)) (fun _ _ _ h => h) (Or.inl ⟨by rfl, ?_⟩) hHeld ?_ ?_
  rotate_left
  ·rintro w' ⟨s0, s1, s2, s3, s4, s5⟩
   go_simp
   with_reducible rfl
  rotate_left
  ·simp only [Act.put, List.setIfInBounds_toArray, List.set_cons_zero, List.set_cons_succ, Yi, Yj]
   rfl
  refine one_ (i := 4) (N := some 13) #[true, true, true, true, true, true, true, true, true, false, true, true, true, true, false, false, false, false] rfl rfl (one_of HT_.out (by kernel_rfl)) (by decide) (fun K hK => ?_)
  refine goes_ Try.func81 (by kernel_rfl) rfl #[.slice A0_1 l0_1.length c0_1, .slice A1_2 l1_2.length c1_2] (by rfl) rfl rfl (by (try simp only [List.map_toArray, List.map_cons, List.map_nil]); first | done | rfl | (simp only [List.length_drop, List.length_take]; rfl)) ?_
  with_reducible refine (nats_Mul.calls k _ _ l0_1 _ _ l1_2 t1091 _ ?side1 ?side2 ?side3 ?side4 A3.out).mono ?_
  (case side1 => repeat (first | exact (Kd.Ys HR0_1.out HB.out) | (with_reducible refine Kd.Zu ?_ _) | (with_reducible refine Kd.Zt ?_ _) | (with_reducible refine Kd.Yc ?_)))
  (case side2 => exact HC0_1.out)
  (case side3 => repeat (first | exact (Kd.Ys HR1_2.out HB.out) | (with_reducible refine Kd.Zu ?_ _) | (with_reducible refine Kd.Zt ?_ _) | (with_reducible refine Kd.Yc ?_)))
  (case side4 => exact HC1_2.out)
  rintro e w13 ⟨v1092, rfl, ho0, hb⟩
  refine ⟨_, rfl, ?_⟩
  have n0_ := Yt.mk (Kd.Yb ho0 (Zk (by repeat (first | (with_reducible first | exact HB.out | apply Zb | apply Za | apply Zc | refine Zd ?_ GE1088.out | refine Zd ?_ GE1089.out | refine Zd ?_ GE1090.out) | exact HB.out))))
  have n1_ := Yt.mk (Zq (g := gb1088) (o := .cells #[.bool a0_0, .slice A0_1 l0_1.length c0_1, .slice A0_2 l0_2.length c0_2] 50 (0, 0)) (by (with_reducible repeat (first | refine Zg ?_ _ | refine Zi ?_ | refine Zh ?_ _)); exact BK1088.out) hb)
  have n2_ := Yt.mk (Zq (g := gb1089) (o := .cells #[.bool a1_0, .slice A1_1 l1_1.length c1_1, .slice A1_2 l1_2.length c1_2] 50 (0, 0)) (by (with_reducible repeat (first | refine Zg ?_ _ | refine Zi ?_ | refine Zh ?_ _)); exact BK1089.out) hb)
  have n3_ := Yt.mk (Zq (g := gb1090) (o := .cells #[.bool false, .slice none 0 0, .slice none 0 0] 50 (0, 0)) (by (with_reducible repeat (first | refine Zg ?_ _ | refine Zi ?_ | refine Zh ?_ _)); exact BK1090.out) hb)
  have n4_ := Yt.mk (Zm (by repeat (first | (with_reducible first | exact HB.out | apply Zb | apply Za | apply Zc | refine Zd ?_ GE1088.out | refine Zd ?_ GE1089.out | refine Zd ?_ GE1090.out) | exact HB.out)) hb)
  clear BK1088
  clear BK1089
  clear BK1090
  clear HB
  have HO1093 := n0_
  have BK1088 := n1_
  have BK1089 := n2_
  have BK1090 := n3_
  have HB := n4_
  clear n0_ n1_ n2_ n3_ n4_
  (try clear hb)
  (try clear hb2)
  (try clear hk)
  (try clear hi)
  (try clear ho0)
  refine hK.out _ _ ⟨(Zl BK1088.out 0).trans rfl, (Zl BK1088.out 1).trans rfl, (Zl BK1088.out 2).trans rfl, (Zl BK1089.out 0).trans rfl, (Zl BK1089.out 1).trans rfl, (Zl BK1089.out 2).trans rfl⟩ (fun hHeld => ?_)
  clear hK K
  refine norm_ (a' := ?_) ?_ ?_
  rotate_left
  ·show Act.put _ (some 13) _ = _
   simp only [Act.put, List.setIfInBounds_toArray, List.set_cons_zero, List.set_cons_succ, Yi, Yj]
   rfl
  refine one_ (i := 9) (N := some 18) #[true, true, true, true, true, true, true, true, true, true, true, true, true, true, false, false, false, false] rfl rfl (one_of HT_.out (by kernel_rfl)) (by decide) (fun K hK => ?_)
  refine goes_ Try.func81 (by kernel_rfl) rfl #[.slice A1_1 l1_1.length c1_1, .slice A0_2 l0_2.length c0_2] (by rfl) rfl rfl (by (try simp only [List.map_toArray, List.map_cons, List.map_nil]); first | done | rfl | (simp only [List.length_drop, List.length_take]; rfl)) ?_
  with_reducible refine (nats_Mul.calls k _ _ l1_1 _ _ l0_2 t1094 _ ?side1 ?side2 ?side3 ?side4 A4.out).mono ?_
  (case side1 => repeat (first | exact (Kd.Ys HR1_1.out HB.out) | (with_reducible refine Kd.Zu ?_ _) | (with_reducible refine Kd.Zt ?_ _) | (with_reducible refine Kd.Yc ?_)))
  (case side2 => exact HC1_1.out)
  (case side3 => repeat (first | exact (Kd.Ys HR0_2.out HB.out) | (with_reducible refine Kd.Zu ?_ _) | (with_reducible refine Kd.Zt ?_ _) | (with_reducible refine Kd.Yc ?_)))
  (case side4 => exact HC0_2.out)
  rintro e w14 ⟨v1095, rfl, ho0, hb⟩
  refine ⟨_, rfl, ?_⟩
  have n0_ := Yt.mk (Kd.Yf (by (with_reducible repeat (first | apply Kd.Zf | apply Kd.Ze | apply Kd.Zj)); exact HO1093.out) (Kd.Zw ho0) hb)
  have n1_ := Yt.mk (Kd.Yb (Kd.Ya ho0 (Kd.R_lt (by (with_reducible repeat (first | apply Kd.Zf | apply Kd.Ze | apply Kd.Zj)); exact HO1093.out))) (Zk (by repeat (first | (with_reducible first | exact HB.out | apply Zb | apply Za | apply Zc | refine Zd ?_ GE1088.out | refine Zd ?_ GE1089.out | refine Zd ?_ GE1090.out) | exact HB.out))))
  have n2_ := Yt.mk (Zq (g := gb1088) (o := .cells #[.bool a0_0, .slice A0_1 l0_1.length c0_1, .slice A0_2 l0_2.length c0_2] 50 (0, 0)) (by (with_reducible repeat (first | refine Zg ?_ _ | refine Zi ?_ | refine Zh ?_ _)); exact BK1088.out) hb)
  have n3_ := Yt.mk (Zq (g := gb1089) (o := .cells #[.bool a1_0, .slice A1_1 l1_1.length c1_1, .slice A1_2 l1_2.length c1_2] 50 (0, 0)) (by (with_reducible repeat (first | refine Zg ?_ _ | refine Zi ?_ | refine Zh ?_ _)); exact BK1089.out) hb)
  have n4_ := Yt.mk (Zq (g := gb1090) (o := .cells #[.bool false, .slice none 0 0, .slice none 0 0] 50 (0, 0)) (by (with_reducible repeat (first | refine Zg ?_ _ | refine Zi ?_ | refine Zh ?_ _)); exact BK1090.out) hb)
  have n5_ := Yt.mk (Zm (by repeat (first | (with_reducible first | exact HB.out | apply Zb | apply Za | apply Zc | refine Zd ?_ GE1088.out | refine Zd ?_ GE1089.out | refine Zd ?_ GE1090.out) | exact HB.out)) hb)
  clear HO1093
  clear BK1088
  clear BK1089
  clear BK1090
  clear HB
  have HO1093 := n0_
  have HO1096 := n1_
  have BK1088 := n2_
  have BK1089 := n3_
  have BK1090 := n4_
  have HB := n5_
  clear n0_ n1_ n2_ n3_ n4_ n5_
  (try clear hb)
  (try clear hb2)
  (try clear hk)
  (try clear hi)
  (try clear ho0)
  refine hK.out _ _ ⟨(Zl BK1088.out 0).trans rfl, (Zl BK1088.out 1).trans rfl, (Zl BK1088.out 2).trans rfl, (Zl BK1089.out 0).trans rfl, (Zl BK1089.out 1).trans rfl, (Zl BK1089.out 2).trans rfl⟩ (fun hHeld => ?_)
  clear hK K
  refine norm_ (a' := ?_) ?_ ?_
  rotate_left
  ·show Act.put _ (some 18) _ = _
   simp only [Act.put, List.setIfInBounds_toArray, List.set_cons_zero, List.set_cons_succ, Yi, Yj]
   rfl
  refine one_ (i := 14) (N := some 23) #[true, true, true, true, true, true, true, true, true, true, true, true, true, true, true, false, false, false] rfl rfl (one_of HT_.out (by kernel_rfl)) (by decide) (fun K hK => ?_)
  refine goes_ Try.func81 (by kernel_rfl) rfl #[.slice A0_2 l0_2.length c0_2, .slice A1_2 l1_2.length c1_2] (by rfl) rfl rfl (by (try simp only [List.map_toArray, List.map_cons, List.map_nil]); first | done | rfl | (simp only [List.length_drop, List.length_take]; rfl)) ?_
  with_reducible refine (nats_Mul.calls k _ _ l0_2 _ _ l1_2 t1097 _ ?side1 ?side2 ?side3 ?side4 A5.out).mono ?_
  (case side1 => repeat (first | exact (Kd.Ys HR0_2.out HB.out) | (with_reducible refine Kd.Zu ?_ _) | (with_reducible refine Kd.Zt ?_ _) | (with_reducible refine Kd.Yc ?_)))
  (case side2 => exact HC0_2.out)
  (case side3 => repeat (first | exact (Kd.Ys HR1_2.out HB.out) | (with_reducible refine Kd.Zu ?_ _) | (with_reducible refine Kd.Zt ?_ _) | (with_reducible refine Kd.Yc ?_)))
  (case side4 => exact HC1_2.out)
  rintro e w15 ⟨v1098, rfl, ho0, hb⟩
  refine ⟨_, rfl, ?_⟩
  have n0_ := Yt.mk (Kd.Yf (by (with_reducible repeat (first | apply Kd.Zf | apply Kd.Ze | apply Kd.Zj)); exact HO1093.out) (Kd.Zw ho0) hb)
  have n1_ := Yt.mk (Kd.Yf (by (with_reducible repeat (first | apply Kd.Zf | apply Kd.Ze | apply Kd.Zj)); exact HO1096.out) (Kd.Zw ho0) hb)
  have n2_ := Yt.mk (Kd.Yb (Kd.Ya (Kd.Ya ho0 (Kd.R_lt (by (with_reducible repeat (first | apply Kd.Zf | apply Kd.Ze | apply Kd.Zj)); exact HO1093.out))) (Kd.R_lt (by (with_reducible repeat (first | apply Kd.Zf | apply Kd.Ze | apply Kd.Zj)); exact HO1096.out))) (Zk (by repeat (first | (with_reducible first | exact HB.out | apply Zb | apply Za | apply Zc | refine Zd ?_ GE1088.out | refine Zd ?_ GE1089.out | refine Zd ?_ GE1090.out) | exact HB.out))))
  have n3_ := Yt.mk (Zq (g := gb1088) (o := .cells #[.bool a0_0, .slice A0_1 l0_1.length c0_1, .slice A0_2 l0_2.length c0_2] 50 (0, 0)) (by (with_reducible repeat (first | refine Zg ?_ _ | refine Zi ?_ | refine Zh ?_ _)); exact BK1088.out) hb)
  have n4_ := Yt.mk (Zq (g := gb1089) (o := .cells #[.bool a1_0, .slice A1_1 l1_1.length c1_1, .slice A1_2 l1_2.length c1_2] 50 (0, 0)) (by (with_reducible repeat (first | refine Zg ?_ _ | refine Zi ?_ | refine Zh ?_ _)); exact BK1089.out) hb)
  have n5_ := Yt.mk (Zq (g := gb1090) (o := .cells #[.bool false, .slice none 0 0, .slice none 0 0] 50 (0, 0)) (by (with_reducible repeat (first | refine Zg ?_ _ | refine Zi ?_ | refine Zh ?_ _)); exact BK1090.out) hb)
  have n6_ := Yt.mk (Zm (by repeat (first | (with_reducible first | exact HB.out | apply Zb | apply Za | apply Zc | refine Zd ?_ GE1088.out | refine Zd ?_ GE1089.out | refine Zd ?_ GE1090.out) | exact HB.out)) hb)
  clear HO1093
  clear HO1096
  clear BK1088
  clear BK1089
  clear BK1090
  clear HB
  have HO1093 := n0_
  have HO1096 := n1_
  have HO1099 := n2_
  have BK1088 := n3_
  have BK1089 := n4_
  have BK1090 := n5_
  have HB := n6_
  clear n0_ n1_ n2_ n3_ n4_ n5_ n6_
  (try clear hb)
  (try clear hb2)
  (try clear hk)
  (try clear hi)
  (try clear ho0)
  refine hK.out _ _ ⟨(Zl BK1088.out 0).trans rfl, (Zl BK1088.out 1).trans rfl, (Zl BK1088.out 2).trans rfl, (Zl BK1089.out 0).trans rfl, (Zl BK1089.out 1).trans rfl, (Zl BK1089.out 2).trans rfl⟩ (fun hHeld => ?_)
  clear hK K
  refine norm_ (a' := ?_) ?_ ?_
  rotate_left
  ·show Act.put _ (some 23) _ = _
   simp only [Act.put, List.setIfInBounds_toArray, List.set_cons_zero, List.set_cons_succ, Yi, Yj]
   rfl
  refine pure_ (i := 15) (N := some 6) (v := ?_) (a' := ?_) #[true, true, true, true, true, true, true, true, true, true, true, true, true, true, true, true, false, false] rfl rfl (any_of HT_.out (by kernel_rfl)) (fun _ _ _ h => h) (Or.inl ⟨by rfl, ?_⟩) ?_ ?_
  rotate_left
  ·intro w'
   go_simp
   with_reducible rfl
  rotate_left
  ·simp only [Act.put, List.setIfInBounds_toArray, List.set_cons_zero, List.set_cons_succ, Yi, Yj]
   rfl
  refine pure_ (i := 16) (N := some 7) (v := ?_) (a' := ?_) #[true, true, true, true, true, true, true, true, true, true, true, true, true, true, true, true, true, false] rfl rfl (any_of HT_.out (by kernel_rfl)) (fun _ _ _ h => h) (Or.inl ⟨by rfl, ?_⟩) ?_ ?_
  rotate_left
  ·intro w'
   go_simp
   with_reducible rfl
  rotate_left
  ·simp only [Act.put, List.setIfInBounds_toArray, List.set_cons_zero, List.set_cons_succ, Yi, Yj]
   rfl
  refine pure_ (i := 17) (N := some 8) (v := ?_) (a' := ?_) #[true, true, true, true, true, true, true, true, true, true, true, true, true, true, true, true, true, true] rfl rfl (any_of HT_.out (by kernel_rfl)) (fun _ _ _ h => h) (Or.inl ⟨by rfl, ?_⟩) ?_ ?_
  rotate_left
  ·intro w'
   go_simp
   with_reducible rfl
  rotate_left
  ·simp only [Act.put, List.setIfInBounds_toArray, List.set_cons_zero, List.set_cons_succ, Yi, Yj]
   rfl
  refine done_ (done_of HT_.out (by kernel_rfl)) ?_
  have hnb16 := NB1088_1089.out
  have hnc16 := NB1089_1088.out
  have hnb17 := NB1088_1090.out
  have hnc17 := NB1090_1088.out
  have hcz18_0 : w15.cell? ⟨gb1088, 0, none⟩ = some (.bool a0_0) := (Zl BK1088.out 0).trans rfl
  have hcz18_1 : w15.cell? ⟨gb1088, 1, none⟩ = some (.slice A0_1 l0_1.length c0_1) := (Zl BK1088.out 1).trans rfl
  have hcz18_2 : w15.cell? ⟨gb1088, 2, none⟩ = some (.slice A0_2 l0_2.length c0_2) := (Zl BK1088.out 2).trans rfl
  have hfz18_0 := Zn BK1088.out 0
  have hfz18_1 := Zn BK1088.out 1
  have hfz18_2 := Zn BK1088.out 2
  have hnb19 := NB1089_1090.out
  have hnc19 := NB1090_1089.out
  have hcz20_0 : w15.cell? ⟨gb1089, 0, none⟩ = some (.bool a1_0) := (Zl BK1089.out 0).trans rfl
  have hcz20_1 : w15.cell? ⟨gb1089, 1, none⟩ = some (.slice A1_1 l1_1.length c1_1) := (Zl BK1089.out 1).trans rfl
  have hcz20_2 : w15.cell? ⟨gb1089, 2, none⟩ = some (.slice A1_2 l1_2.length c1_2) := (Zl BK1089.out 2).trans rfl
  have hfz20_0 := Zn BK1089.out 0
  have hfz20_1 := Zn BK1089.out 1
  have hfz20_2 := Zn BK1089.out 2
  try go_wp2
  have n0_ := Yt.mk (Kd.Zj HO1093.out)
  have n1_ := Yt.mk (Kd.Zj HO1096.out)
  have n2_ := Yt.mk (Kd.Zj HO1099.out)
  have n3_ := Yt.mk (Zi BK1088.out)
  have n4_ := Yt.mk (Zi BK1089.out)
  have n5_ := Yt.mk (Zi BK1090.out)
  have n6_ := Yt.mk (Zc HB.out)
  clear HO1093
  clear HO1096
  clear HO1099
  clear BK1088
  clear BK1089
  clear BK1090
  clear HB
  have HO1093 := n0_
  have HO1096 := n1_
  have HO1099 := n2_
  have BK1088 := n3_
  have BK1089 := n4_
  have BK1090 := n5_
  have HB := n6_
  clear n0_ n1_ n2_ n3_ n4_ n5_ n6_
  obtain ⟨Ao22, co22, eo22⟩ := Kd.Zx HO1093.out
  (first | subst eo22 | (injection eo22 with f1_ f2_ f3_; have f4_ := f1_.symm; have f5_ := f3_.symm; clear f1_ f2_ f3_; subst f4_; subst f5_))
  obtain ⟨Ao23, co23, eo23⟩ := Kd.Zx HO1096.out
  (first | subst eo23 | (injection eo23 with f1_ f2_ f3_; have f4_ := f1_.symm; have f5_ := f3_.symm; clear f1_ f2_ f3_; subst f4_; subst f5_))
  refine start_ (n := 11) (S := fun w' => w'.cell? ⟨gb1088, 0, none⟩ = some (.bool a0_0) ∧ w'.cell? ⟨gb1088, 1, none⟩ = some (.slice A0_1 l0_1.length c0_1) ∧ w'.cell? ⟨gb1088, 2, none⟩ = some (.slice A0_2 l0_2.length c0_2)) (ds := []) #[false, false, false, false, false, false, false, false, false, false, false] (by kernel_rfl) rfl rfl ⟨(Zl BK1088.out 0).trans rfl, (Zl BK1088.out 1).trans rfl, (Zl BK1088.out 2).trans rfl⟩ (fun hHeld => ?_); refine with_tabW ratio_add.tab3 ratio_add.bits3 (fun HT_ HW_ => ?_)
  generalize w15.drew = w21 at HO1093 HO1096 HO1099 BK1088 BK1089 BK1090 HB hHeld ⊢
  refine pure_ (i := 0) (N := some 29) (v := ?_) (a' := ?_) #[true, false, false, false, false, false, false, false, false, false, false] rfl rfl (any_of HT_.out (by kernel_rfl)) (fun _ _ _ h => h) (Or.inl ⟨by rfl, ?_⟩) ?_ ?_
  rotate_left
  ·intro w'
   go_simp
   with_reducible rfl
  rotate_left
  ·simp only [Act.put, List.setIfInBounds_toArray, List.set_cons_zero, List.set_cons_succ, Yi, Yj]
   rfl
  refine pure_ (i := 2) (N := some 31) (v := ?_) (a' := ?_) #[true, false, true, false, false, false, false, false, false, false, false] rfl rfl (any_of HT_.out (by kernel_rfl)) (fun _ _ _ h => h) (Or.inl ⟨by rfl, ?_⟩) ?_ ?_
  rotate_left
  ·intro w'
   go_simp
   with_reducible rfl
  rotate_left
  ·simp only [Act.put, List.setIfInBounds_toArray, List.set_cons_zero, List.set_cons_succ, Yi, Yj]
   rfl
  refine pure_ (i := 3) (N := some 32) (v := ?_) (a' := ?_) #[true, false, true, true, false, false, false, false, false, false, false] rfl rfl (any_of HT_.out (by kernel_rfl)) (fun _ _ _ h => h) (Or.inl ⟨by rfl, ?_⟩) ?_ ?_
  rotate_left
  ·intro w'
   go_simp
   with_reducible rfl
  rotate_left
  ·simp only [Act.put, List.setIfInBounds_toArray, List.set_cons_zero, List.set_cons_succ, Yi, Yj]
   rfl
  refine pure_ (i := 5) (N := some 34) (v := ?_) (a' := ?_) #[true, false, true, true, false, true, false, false, false, false, false] rfl rfl (any_of HT_.out (by kernel_rfl)) (fun _ _ _ h => h) (Or.inl ⟨by rfl, ?_⟩) ?_ ?_
  rotate_left
  ·intro w'
   go_simp
   with_reducible rfl
  rotate_left
  ·simp only [Act.put, List.setIfInBounds_toArray, List.set_cons_zero, List.set_cons_succ, Yi, Yj]
   rfl
  refine take_ (i := 1) (N := some 30) (v := ?_) (a' := ?_) #[true, true, true, true, false, true, false, false, false, false, false] rfl rfl (take_ofW HT_.out HW_.out (by kernel_rfl)) (fun _ _ _ h => h) (Or.inl ⟨by rfl, ?_⟩) hHeld ?_ ?_
  rotate_left
  ·rintro w' ⟨s0, s1, s2⟩
   go_simp
   with_reducible rfl
  rotate_left
  ·simp only [Act.put, List.setIfInBounds_toArray, List.set_cons_zero, List.set_cons_succ, Yi, Yj]
   rfl
  refine one_ (i := 4) (N := some 33) #[true, true, true, true, true, true, false, false, false, false, false] rfl rfl (one_of HT_.out (by kernel_rfl)) (by decide) (fun K hK => ?_)
  refine goes_ Try.func93 (by kernel_rfl) rfl #[.slice Ao22 t1091.length co22, .slice Ao23 t1094.length co23] (by rfl) rfl rfl (by (try simp only [List.map_toArray, List.map_cons, List.map_nil]); first | done | rfl | (simp only [List.length_drop, List.length_take]; rfl)) ?_
  with_reducible refine (nats_Add.calls k (fun k_ => some k_ = (.slice Ao22 t1091.length co22 : Value).ownBlock) _ _ t1091 (fun k_ => some k_ = (.slice Ao23 t1094.length co23 : Value).ownBlock) _ _ t1094 t1100 _ ?side1 ?side2 A7.out).mono ?_
  (case side1 => exact Kd.R_V (Kd.R_tight rfl (Kd.Yq (Kd.Yq (Kd.Yq (HO1093.out) BK1088.out (by decide)) BK1089.out (by decide)) BK1090.out (by decide))))
  (case side2 => exact Kd.R_V (Kd.R_tight rfl (Kd.Yq (Kd.Yq (Kd.Yq (HO1096.out) BK1088.out (by decide)) BK1089.out (by decide)) BK1090.out (by decide))))
  rintro e w24 ⟨v1101, rfl, ho0, hb⟩
  refine ⟨_, rfl, ?_⟩
  have n0_ := Yt.mk (Kd.Yf (by (with_reducible repeat (first | apply Kd.Zf | apply Kd.Ze | apply Kd.Zj)); exact HO1093.out) (Kd.Zw ho0) hb)
  have n1_ := Yt.mk (Kd.Yf (by (with_reducible repeat (first | apply Kd.Zf | apply Kd.Ze | apply Kd.Zj)); exact HO1096.out) (Kd.Zw ho0) hb)
  have n2_ := Yt.mk (Kd.Yf (by (with_reducible repeat (first | apply Kd.Zf | apply Kd.Ze | apply Kd.Zj)); exact HO1099.out) (Kd.Zw ho0) hb)
  have n3_ := Yt.mk (Kd.Yb (Kd.Ya (Kd.Ya (Kd.Ya (Kd.Zv (ok' := fun k_ => True) ho0 (fun _ hk_ => trivial)) (Kd.R_lt (by (with_reducible repeat (first | apply Kd.Zf | apply Kd.Ze | apply Kd.Zj)); exact HO1093.out))) (Kd.R_lt (by (with_reducible repeat (first | apply Kd.Zf | apply Kd.Ze | apply Kd.Zj)); exact HO1096.out))) (Kd.R_lt (by (with_reducible repeat (first | apply Kd.Zf | apply Kd.Ze | apply Kd.Zj)); exact HO1099.out))) (Zk (by repeat (first | (with_reducible first | exact HB.out | apply Zb | apply Za | apply Zc | refine Zd ?_ GE1088.out | refine Zd ?_ GE1089.out | refine Zd ?_ GE1090.out) | exact HB.out))))
  have n4_ := Yt.mk (Zq (g := gb1088) (o := .cells #[.bool a0_0, .slice A0_1 l0_1.length c0_1, .slice A0_2 l0_2.length c0_2] 50 (0, 0)) (by (with_reducible repeat (first | refine Zg ?_ _ | refine Zi ?_ | refine Zh ?_ _)); exact BK1088.out) hb)
  have n5_ := Yt.mk (Zq (g := gb1089) (o := .cells #[.bool a1_0, .slice A1_1 l1_1.length c1_1, .slice A1_2 l1_2.length c1_2] 50 (0, 0)) (by (with_reducible repeat (first | refine Zg ?_ _ | refine Zi ?_ | refine Zh ?_ _)); exact BK1089.out) hb)
  have n6_ := Yt.mk (Zq (g := gb1090) (o := .cells #[.bool false, .slice none 0 0, .slice none 0 0] 50 (0, 0)) (by (with_reducible repeat (first | refine Zg ?_ _ | refine Zi ?_ | refine Zh ?_ _)); exact BK1090.out) hb)
  have n7_ := Yt.mk (Zm (by repeat (first | (with_reducible first | exact HB.out | apply Zb | apply Za | apply Zc | refine Zd ?_ GE1088.out | refine Zd ?_ GE1089.out | refine Zd ?_ GE1090.out) | exact HB.out)) hb)
  clear HO1093
  clear HO1096
  clear HO1099
  clear BK1088
  clear BK1089
  clear BK1090
  clear HB
  have HO1093 := n0_
  have HO1096 := n1_
  have HO1099 := n2_
  have HO1102 := n3_
  have BK1088 := n4_
  have BK1089 := n5_
  have BK1090 := n6_
  have HB := n7_
  clear n0_ n1_ n2_ n3_ n4_ n5_ n6_ n7_
  (try clear hb)
  (try clear hb2)
  (try clear hk)
  (try clear hi)
  (try clear ho0)
  obtain ⟨Ao25, co25, eo25⟩ := Kd.Zx HO1102.out
  (first | subst eo25 | (injection eo25 with f1_ f2_ f3_; have f4_ := f1_.symm; have f5_ := f3_.symm; clear f1_ f2_ f3_; subst f4_; subst f5_))
  obtain ⟨Ao26, co26, eo26⟩ := Kd.Zx HO1099.out
  (first | subst eo26 | (injection eo26 with f1_ f2_ f3_; have f4_ := f1_.symm; have f5_ := f3_.symm; clear f1_ f2_ f3_; subst f4_; subst f5_))
  refine hK.out _ _ ⟨(Zl BK1088.out 0).trans rfl, (Zl BK1088.out 1).trans rfl, (Zl BK1088.out 2).trans rfl⟩ (fun hHeld => ?_)
  clear hK K
  refine norm_ (a' := ?_) ?_ ?_
  rotate_left
  ·show Act.put _ (some 33) _ = _
   simp only [Act.put, List.setIfInBounds_toArray, List.set_cons_zero, List.set_cons_succ, Yi, Yj]
   rfl
  refine one_ (i := 6) (N := some 35) #[true, true, true, true, true, true, true, false, false, false, false] rfl rfl (one_of HT_.out (by kernel_rfl)) (by decide) (fun K hK => ?_)
  refine goes_ Try.func48 (by kernel_rfl) rfl #[.bool a0_0, .slice Ao25 t1100.length co25, .slice Ao26 t1097.length co26] (by rfl) rfl rfl (by (try simp only [List.map_toArray, List.map_cons, List.map_nil]); first | done | rfl | (simp only [List.length_drop, List.length_take]; rfl)) ?_
  with_reducible refine (ratio_Make.calls k a0_0 _ _ t1100 _ _ t1097 t1103 t1104 t1107 t1110 _ ?side1 ?side2 ?side3 ?side4 A8.out).mono ?_
  (case side1 => repeat (first | exact (Kd.Zs HO1102.out).2.2 | (with_reducible refine Kd.Zu ?_ _) | (with_reducible refine Kd.Zt ?_ _) | (with_reducible refine Kd.Yc ?_)))
  (case side2 => exact (Kd.Zs HO1102.out).2.1)
  (case side3 => repeat (first | exact (Kd.Zs HO1099.out).2.2 | (with_reducible refine Kd.Zu ?_ _) | (with_reducible refine Kd.Zt ?_ _) | (with_reducible refine Kd.Yc ?_)))
  (case side4 => exact (Kd.Zs HO1099.out).2.1)
  rintro e w27 ⟨v1105, v1108, rfl, ho0, ho1, hb⟩
  refine ⟨_, rfl, ?_⟩
  have n0_ := Yt.mk (Kd.Zv (Kd.Yl (Kd.Yl (Kd.R_old (by (with_reducible repeat (first | apply Kd.Zf | apply Kd.Ze | apply Kd.Zj)); exact HO1093.out) hb) (Kd.Zw ho0)) (Kd.Zw ho1)) (fun _ h_ => h_.1))
  have n1_ := Yt.mk (Kd.Zv (Kd.Yl (Kd.Yl (Kd.R_old (by (with_reducible repeat (first | apply Kd.Zf | apply Kd.Ze | apply Kd.Zj)); exact HO1096.out) hb) (Kd.Zw ho0)) (Kd.Zw ho1)) (fun _ h_ => h_.1))
  have n2_ := Yt.mk (Kd.Zv (Kd.Yl (Kd.Yl (Kd.R_old (by (with_reducible repeat (first | apply Kd.Zf | apply Kd.Ze | apply Kd.Zj)); exact HO1099.out) hb) (Kd.Zw ho0)) (Kd.Zw ho1)) (fun _ h_ => h_.1))
  have n3_ := Yt.mk (Kd.Zv (Kd.Yl (Kd.Yl (Kd.R_old (by (with_reducible repeat (first | apply Kd.Zf | apply Kd.Ze | apply Kd.Zj)); exact HO1102.out) hb) (Kd.Zw ho0)) (Kd.Zw ho1)) (fun _ h_ => h_.1))
  have n4_ := Yt.mk (Kd.Yb (Kd.Ya (Kd.Ya (Kd.Ya (Kd.Ya ho0 (Kd.R_lt (by (with_reducible repeat (first | apply Kd.Zf | apply Kd.Ze | apply Kd.Zj)); exact HO1093.out))) (Kd.R_lt (by (with_reducible repeat (first | apply Kd.Zf | apply Kd.Ze | apply Kd.Zj)); exact HO1096.out))) (Kd.R_lt (by (with_reducible repeat (first | apply Kd.Zf | apply Kd.Ze | apply Kd.Zj)); exact HO1099.out))) (Kd.R_lt (by (with_reducible repeat (first | apply Kd.Zf | apply Kd.Ze | apply Kd.Zj)); exact HO1102.out))) (Zk (by repeat (first | (with_reducible first | exact HB.out | apply Zb | apply Za | apply Zc | refine Zd ?_ GE1088.out | refine Zd ?_ GE1089.out | refine Zd ?_ GE1090.out) | exact HB.out))))
  have n5_ := Yt.mk (Kd.Yb (Kd.Ya (Kd.Ya (Kd.Ya (Kd.Ya ho1 (Kd.R_lt (by (with_reducible repeat (first | apply Kd.Zf | apply Kd.Ze | apply Kd.Zj)); exact HO1093.out))) (Kd.R_lt (by (with_reducible repeat (first | apply Kd.Zf | apply Kd.Ze | apply Kd.Zj)); exact HO1096.out))) (Kd.R_lt (by (with_reducible repeat (first | apply Kd.Zf | apply Kd.Ze | apply Kd.Zj)); exact HO1099.out))) (Kd.R_lt (by (with_reducible repeat (first | apply Kd.Zf | apply Kd.Ze | apply Kd.Zj)); exact HO1102.out))) (Zk (by repeat (first | (with_reducible first | exact HB.out | apply Zb | apply Za | apply Zc | refine Zd ?_ GE1088.out | refine Zd ?_ GE1089.out | refine Zd ?_ GE1090.out) | exact HB.out))))
  have n6_ := Yt.mk (Zq (g := gb1088) (o := .cells #[.bool a0_0, .slice A0_1 l0_1.length c0_1, .slice A0_2 l0_2.length c0_2] 50 (0, 0)) (by (with_reducible repeat (first | refine Zg ?_ _ | refine Zi ?_ | refine Zh ?_ _)); exact BK1088.out) hb)
  have n7_ := Yt.mk (Zq (g := gb1089) (o := .cells #[.bool a1_0, .slice A1_1 l1_1.length c1_1, .slice A1_2 l1_2.length c1_2] 50 (0, 0)) (by (with_reducible repeat (first | refine Zg ?_ _ | refine Zi ?_ | refine Zh ?_ _)); exact BK1089.out) hb)
  have n8_ := Yt.mk (Zq (g := gb1090) (o := .cells #[.bool false, .slice none 0 0, .slice none 0 0] 50 (0, 0)) (by (with_reducible repeat (first | refine Zg ?_ _ | refine Zi ?_ | refine Zh ?_ _)); exact BK1090.out) hb)
  have n9_ := Yt.mk (Zm (by repeat (first | (with_reducible first | exact HB.out | apply Zb | apply Za | apply Zc | refine Zd ?_ GE1088.out | refine Zd ?_ GE1089.out | refine Zd ?_ GE1090.out) | exact HB.out)) hb)
  clear HO1093
  clear HO1096
  clear HO1099
  clear HO1102
  clear BK1088
  clear BK1089
  clear BK1090
  clear HB
  have HO1093 := n0_
  have HO1096 := n1_
  have HO1099 := n2_
  have HO1102 := n3_
  have HO1106 := n4_
  have HO1109 := n5_
  have BK1088 := n6_
  have BK1089 := n7_
  have BK1090 := n8_
  have HB := n9_
  clear n0_ n1_ n2_ n3_ n4_ n5_ n6_ n7_ n8_ n9_
  (try clear hb)
  (try clear hb2)
  (try clear hk)
  (try clear hi)
  (try clear ho0)
  (try clear ho1)
  obtain ⟨Ao29, co29, eo29⟩ := Kd.Zx HO1106.out
  (first | subst eo29 | (injection eo29 with f1_ f2_ f3_; have f4_ := f1_.symm; have f5_ := f3_.symm; clear f1_ f2_ f3_; subst f4_; subst f5_))
  obtain ⟨Ao31, co31, eo31⟩ := Kd.Zx HO1109.out
  (first | subst eo31 | (injection eo31 with f1_ f2_ f3_; have f4_ := f1_.symm; have f5_ := f3_.symm; clear f1_ f2_ f3_; subst f4_; subst f5_))
  refine hK.out _ _ ⟨(Zl BK1088.out 0).trans rfl, (Zl BK1088.out 1).trans rfl, (Zl BK1088.out 2).trans rfl⟩ (fun hHeld => ?_)
  clear hK K
  refine norm_ (a' := ?_) ?_ ?_
  rotate_left
  ·show Act.put _ (some 35) _ = _
   simp only [Act.put, List.setIfInBounds_toArray, List.set_cons_zero, List.set_cons_succ, Yi, Yj]
   rfl
  refine pure_ (i := 7) (N := some 36) (v := ?_) (a' := ?_) #[true, true, true, true, true, true, true, true, false, false, false] rfl rfl (any_of HT_.out (by kernel_rfl)) (fun _ _ _ h => h) (Or.inl ⟨by rfl, ?_⟩) ?_ ?_
  rotate_left
  ·intro w'
   go_simp
   with_reducible rfl
  rotate_left
  ·simp only [Act.put, List.setIfInBounds_toArray, List.set_cons_zero, List.set_cons_succ, Yi, Yj]
   rfl
  refine pure_ (i := 8) (N := some 37) (v := ?_) (a' := ?_) #[true, true, true, true, true, true, true, true, true, false, false] rfl rfl (any_of HT_.out (by kernel_rfl)) (fun _ _ _ h => h) (Or.inl ⟨by rfl, ?_⟩) ?_ ?_
  rotate_left
  ·intro w'
   go_simp
   with_reducible rfl
  rotate_left
  ·simp only [Act.put, List.setIfInBounds_toArray, List.set_cons_zero, List.set_cons_succ, Yi, Yj]
   rfl
  refine one_ (i := 9) (N := none) #[true, true, true, true, true, true, true, true, true, true, false] rfl rfl (one_of HT_.out (by kernel_rfl)) (by decide) (fun K hK => ?_)
  have hs28 : w27.cell? ⟨gb1090, 0, none⟩ = some (.bool false) := (Zl BK1090.out 0).trans rfl
  have hfs28 := Zn BK1090.out 0
  have hns28_0 := NB1088_1090.out
  have hns28_1 := NB1089_1090.out
  have hms28_0 := NB1090_1088.out
  have hms28_1 := NB1090_1089.out
  have hs30 : w27.cell? ⟨gb1090, 1, none⟩ = some (.slice none 0 0) := (Zl BK1090.out 1).trans rfl
  have hfs30 := Zn BK1090.out 1
  have hns30_0 := NB1088_1090.out
  have hns30_1 := NB1089_1090.out
  have hms30_0 := NB1090_1088.out
  have hms30_1 := NB1090_1089.out
  have hs32 : w27.cell? ⟨gb1090, 2, none⟩ = some (.slice none 0 0) := (Zl BK1090.out 2).trans rfl
  have hfs32 := Zn BK1090.out 2
  have hns32_0 := NB1088_1090.out
  have hns32_1 := NB1089_1090.out
  have hms32_0 := NB1090_1088.out
  have hms32_1 := NB1090_1089.out
  refine skip_ (w1 := ?_) (by rfl) rfl ?_ ?_
  rotate_left
  ·go_simp
   rfl
  refine hK.out _ _ ⟨((cell_far (p := ⟨gb1090, _, none⟩) NB1088_1090.out _).trans (((cell_far (p := ⟨gb1090, _, none⟩) NB1088_1090.out _).trans (((cell_far (p := ⟨gb1090, _, none⟩) NB1088_1090.out _).trans (hHeld.1)))))), ((cell_far (p := ⟨gb1090, _, none⟩) NB1088_1090.out _).trans (((cell_far (p := ⟨gb1090, _, none⟩) NB1088_1090.out _).trans (((cell_far (p := ⟨gb1090, _, none⟩) NB1088_1090.out _).trans (hHeld.2.1)))))), ((cell_far (p := ⟨gb1090, _, none⟩) NB1088_1090.out _).trans (((cell_far (p := ⟨gb1090, _, none⟩) NB1088_1090.out _).trans (((cell_far (p := ⟨gb1090, _, none⟩) NB1088_1090.out _).trans (hHeld.2.2))))))⟩ (fun hHeld => ?_)
  clear hK K
  refine pure_ (i := 10) (N := some 5) (v := ?_) (a' := ?_) #[true, true, true, true, true, true, true, true, true, true, true] rfl rfl (any_of HT_.out (by kernel_rfl)) (fun _ _ _ h => h) (Or.inl ⟨by rfl, ?_⟩) ?_ ?_
  rotate_left
  ·intro w'
   go_simp
   with_reducible rfl
  rotate_left
  ·simp only [Act.put, List.setIfInBounds_toArray, List.set_cons_zero, List.set_cons_succ, Yi, Yj]
   rfl
  refine done_ (done_of HT_.out (by kernel_rfl)) ?_
  try go_wp2
  refine bodyPost_ret (results_ct rfl _ _ gb1090 50 #[.bool t1103, .slice Ao29 t1104.length co29, .slice Ao31 t1107.length co31] (0, 0) _ rfl (by (with_reducible repeat (first | refine Zg ?_ _ | refine Zi ?_ | refine Zh ?_ _)); refine Ym (cs := #[.bool t1103, .slice Ao29 t1104.length co29, .slice none 0 0]) ?_ 2 _ rfl; (with_reducible repeat (first | refine Zg ?_ _ | refine Zi ?_ | refine Zh ?_ _)); refine Ym (cs := #[.bool t1103, .slice none 0 0, .slice none 0 0]) ?_ 1 _ rfl; (with_reducible repeat (first | refine Zg ?_ _ | refine Zi ?_ | refine Zh ?_ _)); refine Ym (cs := #[.bool false, .slice none 0 0, .slice none 0 0]) ?_ 0 _ rfl; (with_reducible repeat (first | refine Zg ?_ _ | refine Zi ?_ | refine Zh ?_ _)); exact BK1090.out) Try.underlying50 rfl (by kernel_rfl)) rfl ?_
  exact ⟨_, _, by first | rfl | (simp [Zp, Zo] <;> rfl) | (simp [*, Zp, Zo] <;> rfl), by (with_reducible repeat (first | apply Kd.Zf | apply Kd.Ze | apply Kd.Zj)); exact Kd.Zv (Kd.Yh (p := ⟨gb1090, 2, none⟩) (Kd.Yh (p := ⟨gb1090, 1, none⟩) (Kd.Yh (p := ⟨gb1090, 0, none⟩) (Kd.Yq HO1106.out BK1090.out (by decide)) (fun _ hk => hk.2) (.bool t1103)) (fun _ hk => hk.2) (.slice Ao29 t1104.length co29)) (fun _ hk => hk.2) (.slice Ao31 t1107.length co31)) (fun _ hk => hk.1.1.1.1.1), by (with_reducible repeat (first | apply Kd.Zf | apply Kd.Ze | apply Kd.Zj)); exact Kd.Zv (Kd.Yh (p := ⟨gb1090, 2, none⟩) (Kd.Yh (p := ⟨gb1090, 1, none⟩) (Kd.Yh (p := ⟨gb1090, 0, none⟩) (Kd.Yq HO1109.out BK1090.out (by decide)) (fun _ hk => hk.2) (.bool t1103)) (fun _ hk => hk.2) (.slice Ao29 t1104.length co29)) (fun _ hk => hk.2) (.slice Ao31 t1107.length co31)) (fun _ hk => hk.1.1.1.1.1), by repeat (first | (with_reducible first | exact HB.out | apply Zb | apply Za | apply Zc | refine Zd ?_ GE1088.out | refine Zd ?_ GE1089.out | refine Zd ?_ GE1090.out) | exact HB.out)⟩
 ·rw [if_neg c6] at H
  have c6b0 : (a0_0 == a1_0) = false := by simpa using c6
  (try (have c6b1 : decide (a0_0 = a1_0) = false := by simpa using c6))
  (try (have c6b2 : (a0_0 == a1_0) = false := by simpa using c6))
  (try (have c6b3 : ¬ (a0_0 = a1_0) := by simpa using c6))
  clear c6
  replace H := Option.bind_eq_some_iff.mp H
  obtain ⟨t1111, A330, H⟩ := H
  try dsimp only at H
  have A33 := Yt.mk A330
  clear A330
  by_cases c34 : t1111 < 0
  ·rw [if_pos c34] at H
   have c34b0 : decide (t1111 < 0) = true := decide_eq_true c34
   clear c34
   replace H := Option.bind_eq_some_iff.mp H
   obtain ⟨t1112, A350, H⟩ := H
   try dsimp only at H
   have A35 := Yt.mk A350
   clear A350
   replace H := Option.bind_eq_some_iff.mp H
   obtain ⟨⟨t1115, t1116, t1119, t1122⟩, A360, H⟩ := H
   replace H : (some (t1115, t1116, t1119, t1122)) = some (r1, r2, r3, r4) := H
   have A36 := Yt.mk A360
   clear A360
   simp only [Option.some.injEq, Prod.mk.injEq] at H
   obtain ⟨rfl, rfl, rfl, rfl⟩ := H
   go_enter Try.func106, Try.ntmps106
   try go_wp2_with (first | ((with_reducible refine Yk (N := 2) rfl ?_); refine Yo ?hg (N := 2) ?hd (cs := #[.bool a0_0, .slice A0_1 l0_1.length c0_1, .slice A0_2 l0_2.length c0_2]) (t := 50) ?hr ?_; (case hd => rfl); (case hg => rfl); (case hr => first | (go_simp; done) | (go_simp; rfl)); intro gb1088 hg w37 hbox hb; have n0_ := Yt.mk (Zm (by repeat (first | (with_reducible first | exact HB.out | apply Zb | apply Za | apply Zc) | exact HB.out)) hb); have n1_ := Yt.mk (hbox); have n2_ := Yt.mk ((by rw [hg]; exact (Zk (by repeat (first | (with_reducible first | exact HB.out | apply Zb | apply Za | apply Zc) | exact HB.out))) : w.heap.size ≤ gb1088)); have n3_ := Yt.mk ((by rw [hg]; exact (Zk (by repeat (first | (with_reducible first | exact HB.out | apply Zb | apply Za | apply Zc) | exact HB.out))) : w.heap.size ≤ gb1088)); clear HB; have HB := n0_; have BK1088 := n1_; have GW1088 := n2_; have GE1088 := n3_; clear n0_ n1_ n2_ n3_; clear hb hbox hg) | ((with_reducible refine Yk (N := 3) rfl ?_); refine Yo ?hg (N := 3) ?hd (cs := #[.bool a1_0, .slice A1_1 l1_1.length c1_1, .slice A1_2 l1_2.length c1_2]) (t := 50) ?hr ?_; (case hd => rfl); (case hg => rfl); (case hr => first | (go_simp; done) | (go_simp; rfl)); intro gb1089 hg w38 hbox hb; have n0_ := Yt.mk (Zq (g := gb1088) (o := .cells #[.bool a0_0, .slice A0_1 l0_1.length c0_1, .slice A0_2 l0_2.length c0_2] 50 (0, 0)) (by (with_reducible repeat (first | refine Zg ?_ _ | refine Zi ?_ | refine Zh ?_ _)); exact BK1088.out) hb); have n1_ := Yt.mk (Zm (by repeat (first | (with_reducible first | exact HB.out | apply Zb | apply Za | apply Zc | refine Zd ?_ GE1088.out) | exact HB.out)) hb); have n2_ := Yt.mk (hbox); have n3_ := Yt.mk ((by rw [hg]; exact (Zk (by repeat (first | (with_reducible first | exact HB.out | apply Zb | apply Za | apply Zc | refine Zd ?_ GE1088.out) | exact HB.out))) : w.heap.size ≤ gb1089)); have n4_ := Yt.mk ((by rw [hg]; exact (Zk (by repeat (first | (with_reducible first | exact HB.out | apply Zb | apply Za | apply Zc | refine Zd ?_ GE1088.out) | exact HB.out))) : w.heap.size ≤ gb1089)); have n5_ := Yt.mk ((by rw [hg]; exact Nat.ne_of_lt (blk_lt (g := gb1088) (o := .cells #[.bool a0_0, .slice A0_1 l0_1.length c0_1, .slice A0_2 l0_2.length c0_2] 50 (0, 0)) (by (with_reducible repeat (first | refine Zg ?_ _ | refine Zi ?_ | refine Zh ?_ _)); exact BK1088.out)) : gb1088 ≠ gb1089)); have n6_ := Yt.mk ((by rw [hg]; exact Nat.ne_of_gt (blk_lt (g := gb1088) (o := .cells #[.bool a0_0, .slice A0_1 l0_1.length c0_1, .slice A0_2 l0_2.length c0_2] 50 (0, 0)) (by (with_reducible repeat (first | refine Zg ?_ _ | refine Zi ?_ | refine Zh ?_ _)); exact BK1088.out)) : gb1089 ≠ gb1088)); clear BK1088; clear HB; have BK1088 := n0_; have HB := n1_; have BK1089 := n2_; have GW1089 := n3_; have GE1089 := n4_; have NB1088_1089 := n5_; have NB1089_1088 := n6_; clear n0_ n1_ n2_ n3_ n4_ n5_ n6_; clear hb hbox hg) | ((with_reducible refine Yk (N := 4) rfl ?_); refine Yo ?hg (N := 4) ?hd (cs := #[.bool false, .slice none 0 0, .slice none 0 0]) (t := 50) ?hr ?_; (case hd => rfl); (case hg => rfl); (case hr => first | (go_simp; done) | (go_simp; rfl)); intro gb1090 hg w39 hbox hb; have n0_ := Yt.mk (Zq (g := gb1088) (o := .cells #[.bool a0_0, .slice A0_1 l0_1.length c0_1, .slice A0_2 l0_2.length c0_2] 50 (0, 0)) (by (with_reducible repeat (first | refine Zg ?_ _ | refine Zi ?_ | refine Zh ?_ _)); exact BK1088.out) hb); have n1_ := Yt.mk (Zq (g := gb1089) (o := .cells #[.bool a1_0, .slice A1_1 l1_1.length c1_1, .slice A1_2 l1_2.length c1_2] 50 (0, 0)) (by (with_reducible repeat (first | refine Zg ?_ _ | refine Zi ?_ | refine Zh ?_ _)); exact BK1089.out) hb); have n2_ := Yt.mk (Zm (by repeat (first | (with_reducible first | exact HB.out | apply Zb | apply Za | apply Zc | refine Zd ?_ GE1088.out | refine Zd ?_ GE1089.out) | exact HB.out)) hb); have n3_ := Yt.mk (hbox); have n4_ := Yt.mk ((by rw [hg]; exact (Zk (by repeat (first | (with_reducible first | exact HB.out | apply Zb | apply Za | apply Zc | refine Zd ?_ GE1088.out | refine Zd ?_ GE1089.out) | exact HB.out))) : w.heap.size ≤ gb1090)); have n5_ := Yt.mk ((by rw [hg]; exact (Zk (by repeat (first | (with_reducible first | exact HB.out | apply Zb | apply Za | apply Zc | refine Zd ?_ GE1088.out | refine Zd ?_ GE1089.out) | exact HB.out))) : w.heap.size ≤ gb1090)); have n6_ := Yt.mk ((by rw [hg]; exact Nat.ne_of_lt (blk_lt (g := gb1088) (o := .cells #[.bool a0_0, .slice A0_1 l0_1.length c0_1, .slice A0_2 l0_2.length c0_2] 50 (0, 0)) (by (with_reducible repeat (first | refine Zg ?_ _ | refine Zi ?_ | refine Zh ?_ _)); exact BK1088.out)) : gb1088 ≠ gb1090)); have n7_ := Yt.mk ((by rw [hg]; exact Nat.ne_of_gt (blk_lt (g := gb1088) (o := .cells #[.bool a0_0, .slice A0_1 l0_1.length c0_1, .slice A0_2 l0_2.length c0_2] 50 (0, 0)) (by (with_reducible repeat (first | refine Zg ?_ _ | refine Zi ?_ | refine Zh ?_ _)); exact BK1088.out)) : gb1090 ≠ gb1088)); have n8_ := Yt.mk ((by rw [hg]; exact Nat.ne_of_lt (blk_lt (g := gb1089) (o := .cells #[.bool a1_0, .slice A1_1 l1_1.length c1_1, .slice A1_2 l1_2.length c1_2] 50 (0, 0)) (by (with_reducible repeat (first | refine Zg ?_ _ | refine Zi ?_ | refine Zh ?_ _)); exact BK1089.out)) : gb1089 ≠ gb1090)); have n9_ := Yt.mk ((by rw [hg]; exact Nat.ne_of_gt (blk_lt (g := gb1089) (o := .cells #[.bool a1_0, .slice A1_1 l1_1.length c1_1, .slice A1_2 l1_2.length c1_2] 50 (0, 0)) (by (with_reducible repeat (first | refine Zg ?_ _ | refine Zi ?_ | refine Zh ?_ _)); exact BK1089.out)) : gb1090 ≠ gb1089)); clear BK1088; clear BK1089; clear HB; have BK1088 := n0_; have BK1089 := n1_; have HB := n2_; have BK1090 := n3_; have GW1090 := n4_; have GE1090 := n5_; have NB1088_1090 := n6_; have NB1090_1088 := n7_; have NB1089_1090 := n8_; have NB1090_1089 := n9_; clear n0_ n1_ n2_ n3_ n4_ n5_ n6_ n7_ n8_ n9_; clear hb hbox hg))
   have n0_ := Yt.mk (Zi BK1088.out)
   have n1_ := Yt.mk (Zi BK1089.out)
   have n2_ := Yt.mk (Zi BK1090.out)
   have n3_ := Yt.mk (Zc HB.out)
   clear BK1088
   clear BK1089
   clear BK1090
   clear HB
   have BK1088 := n0_
   have BK1089 := n1_
   have BK1090 := n2_
   have HB := n3_
   clear n0_ n1_ n2_ n3_
   refine start_ (n := 18) (S := fun w' => w'.cell? ⟨gb1088, 0, none⟩ = some (.bool a0_0) ∧ w'.cell? ⟨gb1088, 1, none⟩ = some (.slice A0_1 l0_1.length c0_1) ∧ w'.cell? ⟨gb1088, 2, none⟩ = some (.slice A0_2 l0_2.length c0_2) ∧ w'.cell? ⟨gb1089, 0, none⟩ = some (.bool a1_0) ∧ w'.cell? ⟨gb1089, 1, none⟩ = some (.slice A1_1 l1_1.length c1_1) ∧ w'.cell? ⟨gb1089, 2, none⟩ = some (.slice A1_2 l1_2.length c1_2)) (ds := []) #[false, false, false, false, false, false, false, false, false, false, false, false, false, false, false, false, false, false] (by kernel_rfl) rfl rfl ⟨(Zl BK1088.out 0).trans rfl, (Zl BK1088.out 1).trans rfl, (Zl BK1088.out 2).trans rfl, (Zl BK1089.out 0).trans rfl, (Zl BK1089.out 1).trans rfl, (Zl BK1089.out 2).trans rfl⟩ (fun hHeld => ?_); refine with_tabW ratio_add.tab1 ratio_add.bits1 (fun HT_ HW_ => ?_)
   generalize w39.drew = w40 at BK1088 BK1089 BK1090 HB hHeld ⊢
   refine pure_ (i := 0) (N := some 9) (v := ?_) (a' := ?_) #[true, false, false, false, false, false, false, false, false, false, false, false, false, false, false, false, false, false] rfl rfl (any_of HT_.out (by kernel_rfl)) (fun _ _ _ h => h) (Or.inl ⟨by rfl, ?_⟩) ?_ ?_
   rotate_left
   ·intro w'
    go_simp
    with_reducible rfl
   rotate_left
   ·simp only [Act.put, List.setIfInBounds_toArray, List.set_cons_zero, List.set_cons_succ, Yi, Yj]
    rfl
   refine pure_ (i := 2) (N := some 11) (v := ?_) (a' := ?_) #[true, false, true, false, false, false, false, false, false, false, false, false, false, false, false, false, false, false] rfl rfl (any_of HT_.out (by kernel_rfl)) (fun _ _ _ h => h) (Or.inl ⟨by rfl, ?_⟩) ?_ ?_
   rotate_left
   ·intro w'
    go_simp
    with_reducible rfl
   rotate_left
   ·simp only [Act.put, List.setIfInBounds_toArray, List.set_cons_zero, List.set_cons_succ, Yi, Yj]
    rfl
   refine pure_ (i := 5) (N := some 14) (v := ?_) (a' := ?_) #[true, false, true, false, false, true, false, false, false, false, false, false, false, false, false, false, false, false] rfl rfl (any_of HT_.out (by kernel_rfl)) (fun _ _ _ h => h) (Or.inl ⟨by rfl, ?_⟩) ?_ ?_
   rotate_left
   ·intro w'
    go_simp
    with_reducible rfl
   rotate_left
   ·simp only [Act.put, List.setIfInBounds_toArray, List.set_cons_zero, List.set_cons_succ, Yi, Yj]
    rfl
   refine pure_ (i := 7) (N := some 16) (v := ?_) (a' := ?_) #[true, false, true, false, false, true, false, true, false, false, false, false, false, false, false, false, false, false] rfl rfl (any_of HT_.out (by kernel_rfl)) (fun _ _ _ h => h) (Or.inl ⟨by rfl, ?_⟩) ?_ ?_
   rotate_left
   ·intro w'
    go_simp
    with_reducible rfl
   rotate_left
   ·simp only [Act.put, List.setIfInBounds_toArray, List.set_cons_zero, List.set_cons_succ, Yi, Yj]
    rfl
   refine pure_ (i := 10) (N := some 19) (v := ?_) (a' := ?_) #[true, false, true, false, false, true, false, true, false, false, true, false, false, false, false, false, false, false] rfl rfl (any_of HT_.out (by kernel_rfl)) (fun _ _ _ h => h) (Or.inl ⟨by rfl, ?_⟩) ?_ ?_
   rotate_left
   ·intro w'
    go_simp
    with_reducible rfl
   rotate_left
   ·simp only [Act.put, List.setIfInBounds_toArray, List.set_cons_zero, List.set_cons_succ, Yi, Yj]
    rfl
   refine pure_ (i := 12) (N := some 21) (v := ?_) (a' := ?_) #[true, false, true, false, false, true, false, true, false, false, true, false, true, false, false, false, false, false] rfl rfl (any_of HT_.out (by kernel_rfl)) (fun _ _ _ h => h) (Or.inl ⟨by rfl, ?_⟩) ?_ ?_
   rotate_left
   ·intro w'
    go_simp
    with_reducible rfl
   rotate_left
   ·simp only [Act.put, List.setIfInBounds_toArray, List.set_cons_zero, List.set_cons_succ, Yi, Yj]
    rfl
   refine take_ (i := 1) (N := some 10) (v := ?_) (a' := ?_) #[true, true, true, false, false, true, false, true, false, false, true, false, true, false, false, false, false, false] rfl rfl (take_ofW HT_.out HW_.out (by kernel_rfl)) (fun _ _ _ h => h) (Or.inl ⟨by rfl, ?_⟩) hHeld ?_ ?_
   rotate_left
   ·rintro w' ⟨s0, s1, s2, s3, s4, s5⟩
    go_simp
    with_reducible rfl
   rotate_left
   ·simp only [Act.put, List.setIfInBounds_toArray, List.set_cons_zero, List.set_cons_succ, Yi, Yj]
    rfl
   refine take_ (i := 3) (N := some 12) (v := ?_) (a' := ?_) #[true, true, true, true, false, true, false, true, false, false, true, false, true, false, false, false, false, false] rfl rfl (take_ofW HT_.out HW_.out (by kernel_rfl)) (fun _ _ _ h => h) (Or.inl ⟨by rfl, ?_⟩) hHeld ?_ ?_
   rotate_left
   ·rintro w' ⟨s0, s1, s2, s3, s4, s5⟩
    go_simp
    with_reducible rfl
   rotate_left
   ·simp only [Act.put, List.setIfInBounds_toArray, List.set_cons_zero, List.set_cons_succ, Yi, Yj]
    rfl
   refine take_ (i := 6) (N := some 15) (v := ?_) (a' := ?_) #[true, true, true, true, false, true, true, true, false, false, true, false, true, false, false, false, false, false] rfl rfl (take_ofW HT_.out HW_.out (by kernel_rfl)) (fun _ _ _ h => h) (Or.inl ⟨by rfl, ?_⟩) hHeld ?_ ?_
   rotate_left
   ·rintro w' ⟨s0, s1, s2, s3, s4, s5⟩
    go_simp
    with_reducible rfl
   rotate_left
   ·simp only [Act.put, List.setIfInBounds_toArray, List.set_cons_zero, List.set_cons_succ, Yi, Yj]
    rfl
   refine take_ (i := 8) (N := some 17) (v := ?_) (a' := ?_) #[true, true, true, true, false, true, true, true, true, false, true, false, true, false, false, false, false, false] rfl rfl (take_ofW HT_.out HW_.out (by kernel_rfl)) (fun _ _ _ h => h) (Or.inl ⟨by rfl, ?_⟩) hHeld ?_ ?_
   rotate_left
   ·rintro w' ⟨s0, s1, s2, s3, s4, s5⟩
    go_simp
    with_reducible rfl
   rotate_left
   ·simp only [Act.put, List.setIfInBounds_toArray, List.set_cons_zero, List.set_cons_succ, Yi, Yj]
    rfl
   refine take_ (i := 11) (N := some 20) (v := ?_) (a' := ?_) #[true, true, true, true, false, true, true, true, true, false, true, true, true, false, false, false, false, false] rfl rfl (take_ofW HT_.out HW_.out (by kernel_rfl)) (fun _ _ _ h => h) (Or.inl ⟨by rfl, ?_⟩) hHeld ?_ ?_
   rotate_left
   ·rintro w' ⟨s0, s1, s2, s3, s4, s5⟩
    go_simp
    with_reducible rfl
   rotate_left
   ·simp only [Act.put, List.setIfInBounds_toArray, List.set_cons_zero, List.set_cons_succ, Yi, Yj]
    rfl
   refine take_ (i := 13) (N := some 22) (v := ?_) (a' := ?_) #[true, true, true, true, false, true, true, true, true, false, true, true, true, true, false, false, false, false] rfl rfl (take_ofW HT_.out HW_.out (by kernel_rfl)) (fun _ _ _ h => h) (Or.inl ⟨by rfl, ?_⟩) hHeld ?_ ?_
   rotate_left
   ·rintro w' ⟨s0, s1, s2, s3, s4, s5⟩
    go_simp
    with_reducible rfl
   rotate_left
   ·simp only [Act.put, List.setIfInBounds_toArray, List.set_cons_zero, List.set_cons_succ, Yi, Yj]
    rfl
   refine one_ (i := 4) (N := some 13) #[true, true, true, true, true, true, true, true, true, false, true, true, true, true, false, false, false, false] rfl rfl (one_of HT_.out (by kernel_rfl)) (by decide) (fun K hK => ?_)
   refine goes_ Try.func81 (by kernel_rfl) rfl #[.slice A0_1 l0_1.length c0_1, .slice A1_2 l1_2.length c1_2] (by rfl) rfl rfl (by (try simp only [List.map_toArray, List.map_cons, List.map_nil]); first | done | rfl | (simp only [List.length_drop, List.length_take]; rfl)) ?_
   with_reducible refine (nats_Mul.calls k _ _ l0_1 _ _ l1_2 t1091 _ ?side1 ?side2 ?side3 ?side4 A3.out).mono ?_
   (case side1 => repeat (first | exact (Kd.Ys HR0_1.out HB.out) | (with_reducible refine Kd.Zu ?_ _) | (with_reducible refine Kd.Zt ?_ _) | (with_reducible refine Kd.Yc ?_)))
   (case side2 => exact HC0_1.out)
   (case side3 => repeat (first | exact (Kd.Ys HR1_2.out HB.out) | (with_reducible refine Kd.Zu ?_ _) | (with_reducible refine Kd.Zt ?_ _) | (with_reducible refine Kd.Yc ?_)))
   (case side4 => exact HC1_2.out)
   rintro e w41 ⟨v1092, rfl, ho0, hb⟩
   refine ⟨_, rfl, ?_⟩
   have n0_ := Yt.mk (Kd.Yb ho0 (Zk (by repeat (first | (with_reducible first | exact HB.out | apply Zb | apply Za | apply Zc | refine Zd ?_ GE1088.out | refine Zd ?_ GE1089.out | refine Zd ?_ GE1090.out) | exact HB.out))))
   have n1_ := Yt.mk (Zq (g := gb1088) (o := .cells #[.bool a0_0, .slice A0_1 l0_1.length c0_1, .slice A0_2 l0_2.length c0_2] 50 (0, 0)) (by (with_reducible repeat (first | refine Zg ?_ _ | refine Zi ?_ | refine Zh ?_ _)); exact BK1088.out) hb)
   have n2_ := Yt.mk (Zq (g := gb1089) (o := .cells #[.bool a1_0, .slice A1_1 l1_1.length c1_1, .slice A1_2 l1_2.length c1_2] 50 (0, 0)) (by (with_reducible repeat (first | refine Zg ?_ _ | refine Zi ?_ | refine Zh ?_ _)); exact BK1089.out) hb)
   have n3_ := Yt.mk (Zq (g := gb1090) (o := .cells #[.bool false, .slice none 0 0, .slice none 0 0] 50 (0, 0)) (by (with_reducible repeat (first | refine Zg ?_ _ | refine Zi ?_ | refine Zh ?_ _)); exact BK1090.out) hb)
   have n4_ := Yt.mk (Zm (by repeat (first | (with_reducible first | exact HB.out | apply Zb | apply Za | apply Zc | refine Zd ?_ GE1088.out | refine Zd ?_ GE1089.out | refine Zd ?_ GE1090.out) | exact HB.out)) hb)
   clear BK1088
   clear BK1089
   clear BK1090
   clear HB
   have HO1093 := n0_
   have BK1088 := n1_
   have BK1089 := n2_
   have BK1090 := n3_
   have HB := n4_
   clear n0_ n1_ n2_ n3_ n4_
   (try clear hb)
   (try clear hb2)
   (try clear hk)
   (try clear hi)
   (try clear ho0)
   refine hK.out _ _ ⟨(Zl BK1088.out 0).trans rfl, (Zl BK1088.out 1).trans rfl, (Zl BK1088.out 2).trans rfl, (Zl BK1089.out 0).trans rfl, (Zl BK1089.out 1).trans rfl, (Zl BK1089.out 2).trans rfl⟩ (fun hHeld => ?_)
   clear hK K
   refine norm_ (a' := ?_) ?_ ?_
   rotate_left
   ·show Act.put _ (some 13) _ = _
    simp only [Act.put, List.setIfInBounds_toArray, List.set_cons_zero, List.set_cons_succ, Yi, Yj]
    rfl
   refine one_ (i := 9) (N := some 18) #[true, true, true, true, true, true, true, true, true, true, true, true, true, true, false, false, false, false] rfl rfl (one_of HT_.out (by kernel_rfl)) (by decide) (fun K hK => ?_)
   refine goes_ Try.func81 (by kernel_rfl) rfl #[.slice A1_1 l1_1.length c1_1, .slice A0_2 l0_2.length c0_2] (by rfl) rfl rfl (by (try simp only [List.map_toArray, List.map_cons, List.map_nil]); first | done | rfl | (simp only [List.length_drop, List.length_take]; rfl)) ?_
   with_reducible refine (nats_Mul.calls k _ _ l1_1 _ _ l0_2 t1094 _ ?side1 ?side2 ?side3 ?side4 A4.out).mono ?_
   (case side1 => repeat (first | exact (Kd.Ys HR1_1.out HB.out) | (with_reducible refine Kd.Zu ?_ _) | (with_reducible refine Kd.Zt ?_ _) | (with_reducible refine Kd.Yc ?_)))
   (case side2 => exact HC1_1.out)
   (case side3 => repeat (first | exact (Kd.Ys HR0_2.out HB.out) | (with_reducible refine Kd.Zu ?_ _) | (with_reducible refine Kd.Zt ?_ _) | (with_reducible refine Kd.Yc ?_)))
   (case side4 => exact HC0_2.out)
   rintro e w42 ⟨v1095, rfl, ho0, hb⟩
   refine ⟨_, rfl, ?_⟩
   have n0_ := Yt.mk (Kd.Yf (by (with_reducible repeat (first | apply Kd.Zf | apply Kd.Ze | apply Kd.Zj)); exact HO1093.out) (Kd.Zw ho0) hb)
   have n1_ := Yt.mk (Kd.Yb (Kd.Ya ho0 (Kd.R_lt (by (with_reducible repeat (first | apply Kd.Zf | apply Kd.Ze | apply Kd.Zj)); exact HO1093.out))) (Zk (by repeat (first | (with_reducible first | exact HB.out | apply Zb | apply Za | apply Zc | refine Zd ?_ GE1088.out | refine Zd ?_ GE1089.out | refine Zd ?_ GE1090.out) | exact HB.out))))
   have n2_ := Yt.mk (Zq (g := gb1088) (o := .cells #[.bool a0_0, .slice A0_1 l0_1.length c0_1, .slice A0_2 l0_2.length c0_2] 50 (0, 0)) (by (with_reducible repeat (first | refine Zg ?_ _ | refine Zi ?_ | refine Zh ?_ _)); exact BK1088.out) hb)
   have n3_ := Yt.mk (Zq (g := gb1089) (o := .cells #[.bool a1_0, .slice A1_1 l1_1.length c1_1, .slice A1_2 l1_2.length c1_2] 50 (0, 0)) (by (with_reducible repeat (first | refine Zg ?_ _ | refine Zi ?_ | refine Zh ?_ _)); exact BK1089.out) hb)
   have n4_ := Yt.mk (Zq (g := gb1090) (o := .cells #[.bool false, .slice none 0 0, .slice none 0 0] 50 (0, 0)) (by (with_reducible repeat (first | refine Zg ?_ _ | refine Zi ?_ | refine Zh ?_ _)); exact BK1090.out) hb)
   have n5_ := Yt.mk (Zm (by repeat (first | (with_reducible first | exact HB.out | apply Zb | apply Za | apply Zc | refine Zd ?_ GE1088.out | refine Zd ?_ GE1089.out | refine Zd ?_ GE1090.out) | exact HB.out)) hb)
   clear HO1093
   clear BK1088
   clear BK1089
   clear BK1090
   clear HB
   have HO1093 := n0_
   have HO1096 := n1_
   have BK1088 := n2_
   have BK1089 := n3_
   have BK1090 := n4_
   have HB := n5_
   clear n0_ n1_ n2_ n3_ n4_ n5_
   (try clear hb)
   (try clear hb2)
   (try clear hk)
   (try clear hi)
   (try clear ho0)
   refine hK.out _ _ ⟨(Zl BK1088.out 0).trans rfl, (Zl BK1088.out 1).trans rfl, (Zl BK1088.out 2).trans rfl, (Zl BK1089.out 0).trans rfl, (Zl BK1089.out 1).trans rfl, (Zl BK1089.out 2).trans rfl⟩ (fun hHeld => ?_)
   clear hK K
   refine norm_ (a' := ?_) ?_ ?_
   rotate_left
   ·show Act.put _ (some 18) _ = _
    simp only [Act.put, List.setIfInBounds_toArray, List.set_cons_zero, List.set_cons_succ, Yi, Yj]
    rfl
   refine one_ (i := 14) (N := some 23) #[true, true, true, true, true, true, true, true, true, true, true, true, true, true, true, false, false, false] rfl rfl (one_of HT_.out (by kernel_rfl)) (by decide) (fun K hK => ?_)
   refine goes_ Try.func81 (by kernel_rfl) rfl #[.slice A0_2 l0_2.length c0_2, .slice A1_2 l1_2.length c1_2] (by rfl) rfl rfl (by (try simp only [List.map_toArray, List.map_cons, List.map_nil]); first | done | rfl | (simp only [List.length_drop, List.length_take]; rfl)) ?_
   with_reducible refine (nats_Mul.calls k _ _ l0_2 _ _ l1_2 t1097 _ ?side1 ?side2 ?side3 ?side4 A5.out).mono ?_
   (case side1 => repeat (first | exact (Kd.Ys HR0_2.out HB.out) | (with_reducible refine Kd.Zu ?_ _) | (with_reducible refine Kd.Zt ?_ _) | (with_reducible refine Kd.Yc ?_)))
   (case side2 => exact HC0_2.out)
   (case side3 => repeat (first | exact (Kd.Ys HR1_2.out HB.out) | (with_reducible refine Kd.Zu ?_ _) | (with_reducible refine Kd.Zt ?_ _) | (with_reducible refine Kd.Yc ?_)))
   (case side4 => exact HC1_2.out)
   rintro e w43 ⟨v1098, rfl, ho0, hb⟩
   refine ⟨_, rfl, ?_⟩
   have n0_ := Yt.mk (Kd.Yf (by (with_reducible repeat (first | apply Kd.Zf | apply Kd.Ze | apply Kd.Zj)); exact HO1093.out) (Kd.Zw ho0) hb)
   have n1_ := Yt.mk (Kd.Yf (by (with_reducible repeat (first | apply Kd.Zf | apply Kd.Ze | apply Kd.Zj)); exact HO1096.out) (Kd.Zw ho0) hb)
   have n2_ := Yt.mk (Kd.Yb (Kd.Ya (Kd.Ya ho0 (Kd.R_lt (by (with_reducible repeat (first | apply Kd.Zf | apply Kd.Ze | apply Kd.Zj)); exact HO1093.out))) (Kd.R_lt (by (with_reducible repeat (first | apply Kd.Zf | apply Kd.Ze | apply Kd.Zj)); exact HO1096.out))) (Zk (by repeat (first | (with_reducible first | exact HB.out | apply Zb | apply Za | apply Zc | refine Zd ?_ GE1088.out | refine Zd ?_ GE1089.out | refine Zd ?_ GE1090.out) | exact HB.out))))
   have n3_ := Yt.mk (Zq (g := gb1088) (o := .cells #[.bool a0_0, .slice A0_1 l0_1.length c0_1, .slice A0_2 l0_2.length c0_2] 50 (0, 0)) (by (with_reducible repeat (first | refine Zg ?_ _ | refine Zi ?_ | refine Zh ?_ _)); exact BK1088.out) hb)
   have n4_ := Yt.mk (Zq (g := gb1089) (o := .cells #[.bool a1_0, .slice A1_1 l1_1.length c1_1, .slice A1_2 l1_2.length c1_2] 50 (0, 0)) (by (with_reducible repeat (first | refine Zg ?_ _ | refine Zi ?_ | refine Zh ?_ _)); exact BK1089.out) hb)
   have n5_ := Yt.mk (Zq (g := gb1090) (o := .cells #[.bool false, .slice none 0 0, .slice none 0 0] 50 (0, 0)) (by (with_reducible repeat (first | refine Zg ?_ _ | refine Zi ?_ | refine Zh ?_ _)); exact BK1090.out) hb)
   have n6_ := Yt.mk (Zm (by repeat (first | (with_reducible first | exact HB.out | apply Zb | apply Za | apply Zc | refine Zd ?_ GE1088.out | refine Zd ?_ GE1089.out | refine Zd ?_ GE1090.out) | exact HB.out)) hb)
   clear HO1093
   clear HO1096
   clear BK1088
   clear BK1089
   clear BK1090
   clear HB
   have HO1093 := n0_
   have HO1096 := n1_
   have HO1099 := n2_
   have BK1088 := n3_
   have BK1089 := n4_
   have BK1090 := n5_
   have HB := n6_
   clear n0_ n1_ n2_ n3_ n4_ n5_ n6_
   (try clear hb)
   (try clear hb2)
   (try clear hk)
   (try clear hi)
   (try clear ho0)
   refine hK.out _ _ ⟨(Zl BK1088.out 0).trans rfl, (Zl BK1088.out 1).trans rfl, (Zl BK1088.out 2).trans rfl, (Zl BK1089.out 0).trans rfl, (Zl BK1089.out 1).trans rfl, (Zl BK1089.out 2).trans rfl⟩ (fun hHeld => ?_)
   clear hK K
   refine norm_ (a' := ?_) ?_ ?_
   rotate_left
   ·show Act.put _ (some 23) _ = _
    simp only [Act.put, List.setIfInBounds_toArray, List.set_cons_zero, List.set_cons_succ, Yi, Yj]
    rfl
   refine pure_ (i := 15) (N := some 6) (v := ?_) (a' := ?_) #[true, true, true, true, true, true, true, true, true, true, true, true, true, true, true, true, false, false] rfl rfl (any_of HT_.out (by kernel_rfl)) (fun _ _ _ h => h) (Or.inl ⟨by rfl, ?_⟩) ?_ ?_
   rotate_left
   ·intro w'
    go_simp
    with_reducible rfl
   rotate_left
   ·simp only [Act.put, List.setIfInBounds_toArray, List.set_cons_zero, List.set_cons_succ, Yi, Yj]
    rfl
   refine pure_ (i := 16) (N := some 7) (v := ?_) (a' := ?_) #[true, true, true, true, true, true, true, true, true, true, true, true, true, true, true, true, true, false] rfl rfl (any_of HT_.out (by kernel_rfl)) (fun _ _ _ h => h) (Or.inl ⟨by rfl, ?_⟩) ?_ ?_
   rotate_left
   ·intro w'
    go_simp
    with_reducible rfl
   rotate_left
   ·simp only [Act.put, List.setIfInBounds_toArray, List.set_cons_zero, List.set_cons_succ, Yi, Yj]
    rfl
   refine pure_ (i := 17) (N := some 8) (v := ?_) (a' := ?_) #[true, true, true, true, true, true, true, true, true, true, true, true, true, true, true, true, true, true] rfl rfl (any_of HT_.out (by kernel_rfl)) (fun _ _ _ h => h) (Or.inl ⟨by rfl, ?_⟩) ?_ ?_
   rotate_left
   ·intro w'
    go_simp
    with_reducible rfl
   rotate_left
   ·simp only [Act.put, List.setIfInBounds_toArray, List.set_cons_zero, List.set_cons_succ, Yi, Yj]
    rfl
   refine done_ (done_of HT_.out (by kernel_rfl)) ?_
   have hnb44 := NB1088_1089.out
   have hnc44 := NB1089_1088.out
   have hnb45 := NB1088_1090.out
   have hnc45 := NB1090_1088.out
   have hcz46_0 : w43.cell? ⟨gb1088, 0, none⟩ = some (.bool a0_0) := (Zl BK1088.out 0).trans rfl
   have hcz46_1 : w43.cell? ⟨gb1088, 1, none⟩ = some (.slice A0_1 l0_1.length c0_1) := (Zl BK1088.out 1).trans rfl
   have hcz46_2 : w43.cell? ⟨gb1088, 2, none⟩ = some (.slice A0_2 l0_2.length c0_2) := (Zl BK1088.out 2).trans rfl
   have hfz46_0 := Zn BK1088.out 0
   have hfz46_1 := Zn BK1088.out 1
   have hfz46_2 := Zn BK1088.out 2
   have hnb47 := NB1089_1090.out
   have hnc47 := NB1090_1089.out
   have hcz48_0 : w43.cell? ⟨gb1089, 0, none⟩ = some (.bool a1_0) := (Zl BK1089.out 0).trans rfl
   have hcz48_1 : w43.cell? ⟨gb1089, 1, none⟩ = some (.slice A1_1 l1_1.length c1_1) := (Zl BK1089.out 1).trans rfl
   have hcz48_2 : w43.cell? ⟨gb1089, 2, none⟩ = some (.slice A1_2 l1_2.length c1_2) := (Zl BK1089.out 2).trans rfl
   have hfz48_0 := Zn BK1089.out 0
   have hfz48_1 := Zn BK1089.out 1
   have hfz48_2 := Zn BK1089.out 2
   obtain ⟨Ao49, co49, eo49⟩ := Kd.Zx HO1093.out
   subst eo49
   obtain ⟨Ao50, co50, eo50⟩ := Kd.Zx HO1096.out
   subst eo50
   try go_wp2_with (first | ((with_reducible refine Zr (f := 89) rfl ?_); refine Yg (some 40) rfl rfl Try.func89 (by kernel_rfl) rfl #[.slice Ao49 t1091.length co49, .slice Ao50 t1094.length co50] rfl (by (try simp only [List.map_toArray, List.map_cons, List.map_nil]); first | done | rfl | (simp only [List.length_drop, List.length_take]; rfl)) ?_; (with_reducible refine (nats_Cmp.calls k _ _ t1091 _ _ t1094 t1111 _ ?side1 ?side2 ?side3 ?side4 A33.out).mono ?_); (case side1 => repeat (first | exact (Kd.Zs HO1093.out).2.2 | (with_reducible refine Kd.Zu ?_ _) | (with_reducible refine Kd.Zt ?_ _) | (with_reducible refine Kd.Yc ?_))); (case side2 => exact (Kd.Zs HO1093.out).2.1); (case side3 => repeat (first | exact (Kd.Zs HO1096.out).2.2 | (with_reducible refine Kd.Zu ?_ _) | (with_reducible refine Kd.Zt ?_ _) | (with_reducible refine Kd.Yc ?_))); (case side4 => exact (Kd.Zs HO1096.out).2.1); rintro e w51 ⟨rfl, hb⟩; refine ⟨_, rfl, ?_⟩; have n0_ := Yt.mk (Kd.Yd (by (with_reducible repeat (first | apply Kd.Zf | apply Kd.Ze | apply Kd.Zj)); exact HO1093.out) hb); have n1_ := Yt.mk (Kd.Yd (by (with_reducible repeat (first | apply Kd.Zf | apply Kd.Ze | apply Kd.Zj)); exact HO1096.out) hb); have n2_ := Yt.mk (Kd.Yd (by (with_reducible repeat (first | apply Kd.Zf | apply Kd.Ze | apply Kd.Zj)); exact HO1099.out) hb); have n3_ := Yt.mk (Zq (g := gb1088) (o := .cells #[.bool a0_0, .slice A0_1 l0_1.length c0_1, .slice A0_2 l0_2.length c0_2] 50 (0, 0)) (by (with_reducible repeat (first | refine Zg ?_ _ | refine Zi ?_ | refine Zh ?_ _)); exact BK1088.out) hb); have n4_ := Yt.mk (Zq (g := gb1089) (o := .cells #[.bool a1_0, .slice A1_1 l1_1.length c1_1, .slice A1_2 l1_2.length c1_2] 50 (0, 0)) (by (with_reducible repeat (first | refine Zg ?_ _ | refine Zi ?_ | refine Zh ?_ _)); exact BK1089.out) hb); have n5_ := Yt.mk (Zq (g := gb1090) (o := .cells #[.bool false, .slice none 0 0, .slice none 0 0] 50 (0, 0)) (by (with_reducible repeat (first | refine Zg ?_ _ | refine Zi ?_ | refine Zh ?_ _)); exact BK1090.out) hb); have n6_ := Yt.mk (Zm (by repeat (first | (with_reducible first | exact HB.out | apply Zb | apply Za | apply Zc | refine Zd ?_ GE1088.out | refine Zd ?_ GE1089.out | refine Zd ?_ GE1090.out) | exact HB.out)) hb); clear HO1093; clear HO1096; clear HO1099; clear BK1088; clear BK1089; clear BK1090; clear HB; have HO1093 := n0_; have HO1096 := n1_; have HO1099 := n2_; have BK1088 := n3_; have BK1089 := n4_; have BK1090 := n5_; have HB := n6_; clear n0_ n1_ n2_ n3_ n4_ n5_ n6_; (try clear hb); (try clear hb2); (try clear hk); (try clear hi)))
   have n0_ := Yt.mk (Kd.Zj HO1093.out)
   have n1_ := Yt.mk (Kd.Zj HO1096.out)
   have n2_ := Yt.mk (Kd.Zj HO1099.out)
   have n3_ := Yt.mk (Zi BK1088.out)
   have n4_ := Yt.mk (Zi BK1089.out)
   have n5_ := Yt.mk (Zi BK1090.out)
   have n6_ := Yt.mk (Zc HB.out)
   clear HO1093
   clear HO1096
   clear HO1099
   clear BK1088
   clear BK1089
   clear BK1090
   clear HB
   have HO1093 := n0_
   have HO1096 := n1_
   have HO1099 := n2_
   have BK1088 := n3_
   have BK1089 := n4_
   have BK1090 := n5_
   have HB := n6_
   clear n0_ n1_ n2_ n3_ n4_ n5_ n6_
   refine start_ (n := 11) (S := fun w' => w'.cell? ⟨gb1089, 0, none⟩ = some (.bool a1_0) ∧ w'.cell? ⟨gb1089, 1, none⟩ = some (.slice A1_1 l1_1.length c1_1) ∧ w'.cell? ⟨gb1089, 2, none⟩ = some (.slice A1_2 l1_2.length c1_2)) (ds := []) #[false, false, false, false, false, false, false, false, false, false, false] (by kernel_rfl) rfl rfl ⟨(Zl BK1089.out 0).trans rfl, (Zl BK1089.out 1).trans rfl, (Zl BK1089.out 2).trans rfl⟩ (fun hHeld => ?_); refine with_tabW ratio_add.tab5 ratio_add.bits5 (fun HT_ HW_ => ?_)
   generalize w51.drew = w52 at HO1093 HO1096 HO1099 BK1088 BK1089 BK1090 HB hHeld ⊢
   refine pure_ (i := 0) (N := some 42) (v := ?_) (a' := ?_) #[true, false, false, false, false, false, false, false, false, false, false] rfl rfl (any_of HT_.out (by kernel_rfl)) (fun _ _ _ h => h) (Or.inl ⟨by rfl, ?_⟩) ?_ ?_
   rotate_left
   ·intro w'
    go_simp
    with_reducible rfl
   rotate_left
   ·simp only [Act.put, List.setIfInBounds_toArray, List.set_cons_zero, List.set_cons_succ, Yi, Yj]
    rfl
   refine pure_ (i := 2) (N := some 44) (v := ?_) (a' := ?_) #[true, false, true, false, false, false, false, false, false, false, false] rfl rfl (any_of HT_.out (by kernel_rfl)) (fun _ _ _ h => h) (Or.inl ⟨by rfl, ?_⟩) ?_ ?_
   rotate_left
   ·intro w'
    go_simp
    with_reducible rfl
   rotate_left
   ·simp only [Act.put, List.setIfInBounds_toArray, List.set_cons_zero, List.set_cons_succ, Yi, Yj]
    rfl
   refine pure_ (i := 3) (N := some 45) (v := ?_) (a' := ?_) #[true, false, true, true, false, false, false, false, false, false, false] rfl rfl (any_of HT_.out (by kernel_rfl)) (fun _ _ _ h => h) (Or.inl ⟨by rfl, ?_⟩) ?_ ?_
   rotate_left
   ·intro w'
    go_simp
    with_reducible rfl
   rotate_left
   ·simp only [Act.put, List.setIfInBounds_toArray, List.set_cons_zero, List.set_cons_succ, Yi, Yj]
    rfl
   refine pure_ (i := 5) (N := some 47) (v := ?_) (a' := ?_) #[true, false, true, true, false, true, false, false, false, false, false] rfl rfl (any_of HT_.out (by kernel_rfl)) (fun _ _ _ h => h) (Or.inl ⟨by rfl, ?_⟩) ?_ ?_
   rotate_left
   ·intro w'
    go_simp
    with_reducible rfl
   rotate_left
   ·simp only [Act.put, List.setIfInBounds_toArray, List.set_cons_zero, List.set_cons_succ, Yi, Yj]
    rfl
   refine take_ (i := 1) (N := some 43) (v := ?_) (a' := ?_) #[true, true, true, true, false, true, false, false, false, false, false] rfl rfl (take_ofW HT_.out HW_.out (by kernel_rfl)) (fun _ _ _ h => h) (Or.inl ⟨by rfl, ?_⟩) hHeld ?_ ?_
   rotate_left
   ·rintro w' ⟨s0, s1, s2⟩
    go_simp
    with_reducible rfl
   rotate_left
   ·simp only [Act.put, List.setIfInBounds_toArray, List.set_cons_zero, List.set_cons_succ, Yi, Yj]
    rfl
   refine one_ (i := 4) (N := some 46) #[true, true, true, true, true, true, false, false, false, false, false] rfl rfl (one_of HT_.out (by kernel_rfl)) (by decide) (fun K hK => ?_)
   refine goes_ Try.func94 (by kernel_rfl) rfl #[.slice Ao50 t1094.length co50, .slice Ao49 t1091.length co49] (by rfl) rfl rfl (by (try simp only [List.map_toArray, List.map_cons, List.map_nil]); first | done | rfl | (simp only [List.length_drop, List.length_take]; rfl)) ?_
   with_reducible refine (nats_Sub.calls k _ _ t1094 _ _ t1091 t1112 _ ?side1 ?side2 ?side3 ?side4 A35.out).mono ?_
   (case side1 => repeat (first | exact (Kd.Zs HO1096.out).2.2 | (with_reducible refine Kd.Zu ?_ _) | (with_reducible refine Kd.Zt ?_ _) | (with_reducible refine Kd.Yc ?_)))
   (case side2 => exact (Kd.Zs HO1096.out).2.1)
   (case side3 => repeat (first | exact (Kd.Zs HO1093.out).2.2 | (with_reducible refine Kd.Zu ?_ _) | (with_reducible refine Kd.Zt ?_ _) | (with_reducible refine Kd.Yc ?_)))
   (case side4 => exact (Kd.Zs HO1093.out).2.1)
   rintro e w53 ⟨v1113, rfl, ho0, hb⟩
   refine ⟨_, rfl, ?_⟩
   have n0_ := Yt.mk (Kd.Yf (by (with_reducible repeat (first | apply Kd.Zf | apply Kd.Ze | apply Kd.Zj)); exact HO1093.out) (Kd.Zw ho0) hb)
   have n1_ := Yt.mk (Kd.Yf (by (with_reducible repeat (first | apply Kd.Zf | apply Kd.Ze | apply Kd.Zj)); exact HO1096.out) (Kd.Zw ho0) hb)
   have n2_ := Yt.mk (Kd.Yf (by (with_reducible repeat (first | apply Kd.Zf | apply Kd.Ze | apply Kd.Zj)); exact HO1099.out) (Kd.Zw ho0) hb)
   have n3_ := Yt.mk (Kd.Yb (Kd.Ya (Kd.Ya (Kd.Ya ho0 (Kd.R_lt (by (with_reducible repeat (first | apply Kd.Zf | apply Kd.Ze | apply Kd.Zj)); exact HO1093.out))) (Kd.R_lt (by (with_reducible repeat (first | apply Kd.Zf | apply Kd.Ze | apply Kd.Zj)); exact HO1096.out))) (Kd.R_lt (by (with_reducible repeat (first | apply Kd.Zf | apply Kd.Ze | apply Kd.Zj)); exact HO1099.out))) (Zk (by repeat (first | (with_reducible first | exact HB.out | apply Zb | apply Za | apply Zc | refine Zd ?_ GE1088.out | refine Zd ?_ GE1089.out | refine Zd ?_ GE1090.out) | exact HB.out))))
   have n4_ := Yt.mk (Zq (g := gb1088) (o := .cells #[.bool a0_0, .slice A0_1 l0_1.length c0_1, .slice A0_2 l0_2.length c0_2] 50 (0, 0)) (by (with_reducible repeat (first | refine Zg ?_ _ | refine Zi ?_ | refine Zh ?_ _)); exact BK1088.out) hb)
   have n5_ := Yt.mk (Zq (g := gb1089) (o := .cells #[.bool a1_0, .slice A1_1 l1_1.length c1_1, .slice A1_2 l1_2.length c1_2] 50 (0, 0)) (by (with_reducible repeat (first | refine Zg ?_ _ | refine Zi ?_ | refine Zh ?_ _)); exact BK1089.out) hb)
   have n6_ := Yt.mk (Zq (g := gb1090) (o := .cells #[.bool false, .slice none 0 0, .slice none 0 0] 50 (0, 0)) (by (with_reducible repeat (first | refine Zg ?_ _ | refine Zi ?_ | refine Zh ?_ _)); exact BK1090.out) hb)
   have n7_ := Yt.mk (Zm (by repeat (first | (with_reducible first | exact HB.out | apply Zb | apply Za | apply Zc | refine Zd ?_ GE1088.out | refine Zd ?_ GE1089.out | refine Zd ?_ GE1090.out) | exact HB.out)) hb)
   clear HO1093
   clear HO1096
   clear HO1099
   clear BK1088
   clear BK1089
   clear BK1090
   clear HB
   have HO1093 := n0_
   have HO1096 := n1_
   have HO1099 := n2_
   have HO1114 := n3_
   have BK1088 := n4_
   have BK1089 := n5_
   have BK1090 := n6_
   have HB := n7_
   clear n0_ n1_ n2_ n3_ n4_ n5_ n6_ n7_
   (try clear hb)
   (try clear hb2)
   (try clear hk)
   (try clear hi)
   (try clear ho0)
   obtain ⟨Ao54, co54, eo54⟩ := Kd.Zx HO1114.out
   (first | subst eo54 | (injection eo54 with f1_ f2_ f3_; have f4_ := f1_.symm; have f5_ := f3_.symm; clear f1_ f2_ f3_; subst f4_; subst f5_))
   obtain ⟨Ao55, co55, eo55⟩ := Kd.Zx HO1099.out
   (first | subst eo55 | (injection eo55 with f1_ f2_ f3_; have f4_ := f1_.symm; have f5_ := f3_.symm; clear f1_ f2_ f3_; subst f4_; subst f5_))
   refine hK.out _ _ ⟨(Zl BK1089.out 0).trans rfl, (Zl BK1089.out 1).trans rfl, (Zl BK1089.out 2).trans rfl⟩ (fun hHeld => ?_)
   clear hK K
   refine norm_ (a' := ?_) ?_ ?_
   rotate_left
   ·show Act.put _ (some 46) _ = _
    simp only [Act.put, List.setIfInBounds_toArray, List.set_cons_zero, List.set_cons_succ, Yi, Yj]
    rfl
   refine one_ (i := 6) (N := some 48) #[true, true, true, true, true, true, true, false, false, false, false] rfl rfl (one_of HT_.out (by kernel_rfl)) (by decide) (fun K hK => ?_)
   refine goes_ Try.func48 (by kernel_rfl) rfl #[.bool a1_0, .slice Ao54 t1112.length co54, .slice Ao55 t1097.length co55] (by rfl) rfl rfl (by (try simp only [List.map_toArray, List.map_cons, List.map_nil]); first | done | rfl | (simp only [List.length_drop, List.length_take]; rfl)) ?_
   with_reducible refine (ratio_Make.calls k a1_0 _ _ t1112 _ _ t1097 t1115 t1116 t1119 t1122 _ ?side1 ?side2 ?side3 ?side4 A36.out).mono ?_
   (case side1 => repeat (first | exact (Kd.Zs HO1114.out).2.2 | (with_reducible refine Kd.Zu ?_ _) | (with_reducible refine Kd.Zt ?_ _) | (with_reducible refine Kd.Yc ?_)))
   (case side2 => exact (Kd.Zs HO1114.out).2.1)
   (case side3 => repeat (first | exact (Kd.Zs HO1099.out).2.2 | (with_reducible refine Kd.Zu ?_ _) | (with_reducible refine Kd.Zt ?_ _) | (with_reducible refine Kd.Yc ?_)))
   (case side4 => exact (Kd.Zs HO1099.out).2.1)
   rintro e w56 ⟨v1117, v1120, rfl, ho0, ho1, hb⟩
   refine ⟨_, rfl, ?_⟩
   have n0_ := Yt.mk (Kd.Zv (Kd.Yl (Kd.Yl (Kd.R_old (by (with_reducible repeat (first | apply Kd.Zf | apply Kd.Ze | apply Kd.Zj)); exact HO1093.out) hb) (Kd.Zw ho0)) (Kd.Zw ho1)) (fun _ h_ => h_.1))
   have n1_ := Yt.mk (Kd.Zv (Kd.Yl (Kd.Yl (Kd.R_old (by (with_reducible repeat (first | apply Kd.Zf | apply Kd.Ze | apply Kd.Zj)); exact HO1096.out) hb) (Kd.Zw ho0)) (Kd.Zw ho1)) (fun _ h_ => h_.1))
   have n2_ := Yt.mk (Kd.Zv (Kd.Yl (Kd.Yl (Kd.R_old (by (with_reducible repeat (first | apply Kd.Zf | apply Kd.Ze | apply Kd.Zj)); exact HO1099.out) hb) (Kd.Zw ho0)) (Kd.Zw ho1)) (fun _ h_ => h_.1))
   have n3_ := Yt.mk (Kd.Zv (Kd.Yl (Kd.Yl (Kd.R_old (by (with_reducible repeat (first | apply Kd.Zf | apply Kd.Ze | apply Kd.Zj)); exact HO1114.out) hb) (Kd.Zw ho0)) (Kd.Zw ho1)) (fun _ h_ => h_.1))
   have n4_ := Yt.mk (Kd.Yb (Kd.Ya (Kd.Ya (Kd.Ya (Kd.Ya ho0 (Kd.R_lt (by (with_reducible repeat (first | apply Kd.Zf | apply Kd.Ze | apply Kd.Zj)); exact HO1093.out))) (Kd.R_lt (by (with_reducible repeat (first | apply Kd.Zf | apply Kd.Ze | apply Kd.Zj)); exact HO1096.out))) (Kd.R_lt (by (with_reducible repeat (first | apply Kd.Zf | apply Kd.Ze | apply Kd.Zj)); exact HO1099.out))) (Kd.R_lt (by (with_reducible repeat (first | apply Kd.Zf | apply Kd.Ze | apply Kd.Zj)); exact HO1114.out))) (Zk (by repeat (first | (with_reducible first | exact HB.out | apply Zb | apply Za | apply Zc | refine Zd ?_ GE1088.out | refine Zd ?_ GE1089.out | refine Zd ?_ GE1090.out) | exact HB.out))))
   have n5_ := Yt.mk (Kd.Yb (Kd.Ya (Kd.Ya (Kd.Ya (Kd.Ya ho1 (Kd.R_lt (by (with_reducible repeat (first | apply Kd.Zf | apply Kd.Ze | apply Kd.Zj)); exact HO1093.out))) (Kd.R_lt (by (with_reducible repeat (first | apply Kd.Zf | apply Kd.Ze | apply Kd.Zj)); exact HO1096.out))) (Kd.R_lt (by (with_reducible repeat (first | apply Kd.Zf | apply Kd.Ze | apply Kd.Zj)); exact HO1099.out))) (Kd.R_lt (by (with_reducible repeat (first | apply Kd.Zf | apply Kd.Ze | apply Kd.Zj)); exact HO1114.out))) (Zk (by repeat (first | (with_reducible first | exact HB.out | apply Zb | apply Za | apply Zc | refine Zd ?_ GE1088.out | refine Zd ?_ GE1089.out | refine Zd ?_ GE1090.out) | exact HB.out))))
   have n6_ := Yt.mk (Zq (g := gb1088) (o := .cells #[.bool a0_0, .slice A0_1 l0_1.length c0_1, .slice A0_2 l0_2.length c0_2] 50 (0, 0)) (by (with_reducible repeat (first | refine Zg ?_ _ | refine Zi ?_ | refine Zh ?_ _)); exact BK1088.out) hb)
   have n7_ := Yt.mk (Zq (g := gb1089) (o := .cells #[.bool a1_0, .slice A1_1 l1_1.length c1_1, .slice A1_2 l1_2.length c1_2] 50 (0, 0)) (by (with_reducible repeat (first | refine Zg ?_ _ | refine Zi ?_ | refine Zh ?_ _)); exact BK1089.out) hb)
   have n8_ := Yt.mk (Zq (g := gb1090) (o := .cells #[.bool false, .slice none 0 0, .slice none 0 0] 50 (0, 0)) (by (with_reducible repeat (first | refine Zg ?_ _ | refine Zi ?_ | refine Zh ?_ _)); exact BK1090.out) hb)
   have n9_ := Yt.mk (Zm (by repeat (first | (with_reducible first | exact HB.out | apply Zb | apply Za | apply Zc | refine Zd ?_ GE1088.out | refine Zd ?_ GE1089.out | refine Zd ?_ GE1090.out) | exact HB.out)) hb)
   clear HO1093
   clear HO1096
   clear HO1099
   clear HO1114
   clear BK1088
   clear BK1089
   clear BK1090
   clear HB
   have HO1093 := n0_
   have HO1096 := n1_
   have HO1099 := n2_
   have HO1114 := n3_
   have HO1118 := n4_
   have HO1121 := n5_
   have BK1088 := n6_
   have BK1089 := n7_
   have BK1090 := n8_
   have HB := n9_
   clear n0_ n1_ n2_ n3_ n4_ n5_ n6_ n7_ n8_ n9_
   (try clear hb)
   (try clear hb2)
   (try clear hk)
   (try clear hi)
   (try clear ho0)
   (try clear ho1)
   obtain ⟨Ao58, co58, eo58⟩ := Kd.Zx HO1118.out
   (first | subst eo58 | (injection eo58 with f1_ f2_ f3_; have f4_ := f1_.symm; have f5_ := f3_.symm; clear f1_ f2_ f3_; subst f4_; subst f5_))
   obtain ⟨Ao60, co60, eo60⟩ := Kd.Zx HO1121.out
   (first | subst eo60 | (injection eo60 with f1_ f2_ f3_; have f4_ := f1_.symm; have f5_ := f3_.symm; clear f1_ f2_ f3_; subst f4_; subst f5_))
   refine hK.out _ _ ⟨(Zl BK1089.out 0).trans rfl, (Zl BK1089.out 1).trans rfl, (Zl BK1089.out 2).trans rfl⟩ (fun hHeld => ?_)
   clear hK K
   refine norm_ (a' := ?_) ?_ ?_
   rotate_left
   ·show Act.put _ (some 48) _ = _
    simp only [Act.put, List.setIfInBounds_toArray, List.set_cons_zero, List.set_cons_succ, Yi, Yj]
    rfl
   refine pure_ (i := 7) (N := some 49) (v := ?_) (a' := ?_) #[true, true, true, true, true, true, true, true, false, false, false] rfl rfl (any_of HT_.out (by kernel_rfl)) (fun _ _ _ h => h) (Or.inl ⟨by rfl, ?_⟩) ?_ ?_
   rotate_left
   ·intro w'
    go_simp
    with_reducible rfl
   rotate_left
   ·simp only [Act.put, List.setIfInBounds_toArray, List.set_cons_zero, List.set_cons_succ, Yi, Yj]
    rfl
   refine pure_ (i := 8) (N := some 50) (v := ?_) (a' := ?_) #[true, true, true, true, true, true, true, true, true, false, false] rfl rfl (any_of HT_.out (by kernel_rfl)) (fun _ _ _ h => h) (Or.inl ⟨by rfl, ?_⟩) ?_ ?_
   rotate_left
   ·intro w'
    go_simp
    with_reducible rfl
   rotate_left
   ·simp only [Act.put, List.setIfInBounds_toArray, List.set_cons_zero, List.set_cons_succ, Yi, Yj]
    rfl
   refine one_ (i := 9) (N := none) #[true, true, true, true, true, true, true, true, true, true, false] rfl rfl (one_of HT_.out (by kernel_rfl)) (by decide) (fun K hK => ?_)
   have hs57 : w56.cell? ⟨gb1090, 0, none⟩ = some (.bool false) := (Zl BK1090.out 0).trans rfl
   have hfs57 := Zn BK1090.out 0
   have hns57_0 := NB1088_1090.out
   have hns57_1 := NB1089_1090.out
   have hms57_0 := NB1090_1088.out
   have hms57_1 := NB1090_1089.out
   have hs59 : w56.cell? ⟨gb1090, 1, none⟩ = some (.slice none 0 0) := (Zl BK1090.out 1).trans rfl
   have hfs59 := Zn BK1090.out 1
   have hns59_0 := NB1088_1090.out
   have hns59_1 := NB1089_1090.out
   have hms59_0 := NB1090_1088.out
   have hms59_1 := NB1090_1089.out
   have hs61 : w56.cell? ⟨gb1090, 2, none⟩ = some (.slice none 0 0) := (Zl BK1090.out 2).trans rfl
   have hfs61 := Zn BK1090.out 2
   have hns61_0 := NB1088_1090.out
   have hns61_1 := NB1089_1090.out
   have hms61_0 := NB1090_1088.out
   have hms61_1 := NB1090_1089.out
   refine skip_ (w1 := ?_) (by rfl) rfl ?_ ?_
   rotate_left
   ·go_simp
    rfl
   refine hK.out _ _ ⟨((cell_far (p := ⟨gb1090, _, none⟩) NB1089_1090.out _).trans (((cell_far (p := ⟨gb1090, _, none⟩) NB1089_1090.out _).trans (((cell_far (p := ⟨gb1090, _, none⟩) NB1089_1090.out _).trans (hHeld.1)))))), ((cell_far (p := ⟨gb1090, _, none⟩) NB1089_1090.out _).trans (((cell_far (p := ⟨gb1090, _, none⟩) NB1089_1090.out _).trans (((cell_far (p := ⟨gb1090, _, none⟩) NB1089_1090.out _).trans (hHeld.2.1)))))), ((cell_far (p := ⟨gb1090, _, none⟩) NB1089_1090.out _).trans (((cell_far (p := ⟨gb1090, _, none⟩) NB1089_1090.out _).trans (((cell_far (p := ⟨gb1090, _, none⟩) NB1089_1090.out _).trans (hHeld.2.2))))))⟩ (fun hHeld => ?_)
   clear hK K
   refine pure_ (i := 10) (N := some 5) (v := ?_) (a' := ?_) #[true, true, true, true, true, true, true, true, true, true, true] rfl rfl (any_of HT_.out (by kernel_rfl)) (fun _ _ _ h => h) (Or.inl ⟨by rfl, ?_⟩) ?_ ?_
   rotate_left
   ·intro w'
    go_simp
    with_reducible rfl
   rotate_left
   ·simp only [Act.put, List.setIfInBounds_toArray, List.set_cons_zero, List.set_cons_succ, Yi, Yj]
    rfl
   refine done_ (done_of HT_.out (by kernel_rfl)) ?_
   try go_wp2
   refine bodyPost_ret (results_ct rfl _ _ gb1090 50 #[.bool t1115, .slice Ao58 t1116.length co58, .slice Ao60 t1119.length co60] (0, 0) _ rfl (by (with_reducible repeat (first | refine Zg ?_ _ | refine Zi ?_ | refine Zh ?_ _)); refine Ym (cs := #[.bool t1115, .slice Ao58 t1116.length co58, .slice none 0 0]) ?_ 2 _ rfl; (with_reducible repeat (first | refine Zg ?_ _ | refine Zi ?_ | refine Zh ?_ _)); refine Ym (cs := #[.bool t1115, .slice none 0 0, .slice none 0 0]) ?_ 1 _ rfl; (with_reducible repeat (first | refine Zg ?_ _ | refine Zi ?_ | refine Zh ?_ _)); refine Ym (cs := #[.bool false, .slice none 0 0, .slice none 0 0]) ?_ 0 _ rfl; (with_reducible repeat (first | refine Zg ?_ _ | refine Zi ?_ | refine Zh ?_ _)); exact BK1090.out) Try.underlying50 rfl (by kernel_rfl)) rfl ?_
   exact ⟨_, _, by first | rfl | (simp [Zp, Zo] <;> rfl) | (simp [*, Zp, Zo] <;> rfl), by (with_reducible repeat (first | apply Kd.Zf | apply Kd.Ze | apply Kd.Zj)); exact Kd.Zv (Kd.Yh (p := ⟨gb1090, 2, none⟩) (Kd.Yh (p := ⟨gb1090, 1, none⟩) (Kd.Yh (p := ⟨gb1090, 0, none⟩) (Kd.Yq HO1118.out BK1090.out (by decide)) (fun _ hk => hk.2) (.bool t1115)) (fun _ hk => hk.2) (.slice Ao58 t1116.length co58)) (fun _ hk => hk.2) (.slice Ao60 t1119.length co60)) (fun _ hk => hk.1.1.1.1.1), by (with_reducible repeat (first | apply Kd.Zf | apply Kd.Ze | apply Kd.Zj)); exact Kd.Zv (Kd.Yh (p := ⟨gb1090, 2, none⟩) (Kd.Yh (p := ⟨gb1090, 1, none⟩) (Kd.Yh (p := ⟨gb1090, 0, none⟩) (Kd.Yq HO1121.out BK1090.out (by decide)) (fun _ hk => hk.2) (.bool t1115)) (fun _ hk => hk.2) (.slice Ao58 t1116.length co58)) (fun _ hk => hk.2) (.slice Ao60 t1119.length co60)) (fun _ hk => hk.1.1.1.1.1), by repeat (first | (with_reducible first | exact HB.out | apply Zb | apply Za | apply Zc | refine Zd ?_ GE1088.out | refine Zd ?_ GE1089.out | refine Zd ?_ GE1090.out) | exact HB.out)⟩
  ·rw [if_neg c34] at H
   have c34b0 : decide (t1111 < 0) = false := decide_eq_false c34
   clear c34
   replace H := Option.bind_eq_some_iff.mp H
   obtain ⟨t1123, A620, H⟩ := H
   try dsimp only at H
   have A62 := Yt.mk A620
   clear A620
   replace H := Option.bind_eq_some_iff.mp H
   obtain ⟨⟨t1126, t1127, t1130, t1133⟩, A630, H⟩ := H
   replace H : (some (t1126, t1127, t1130, t1133)) = some (r1, r2, r3, r4) := H
   have A63 := Yt.mk A630
   clear A630
   simp only [Option.some.injEq, Prod.mk.injEq] at H
   obtain ⟨rfl, rfl, rfl, rfl⟩ := H
   go_enter Try.func106, Try.ntmps106
   try go_wp2_with (first | ((with_reducible refine Yk (N := 2) rfl ?_); refine Yo ?hg (N := 2) ?hd (cs := #[.bool a0_0, .slice A0_1 l0_1.length c0_1, .slice A0_2 l0_2.length c0_2]) (t := 50) ?hr ?_; (case hd => rfl); (case hg => rfl); (case hr => first | (go_simp; done) | (go_simp; rfl)); intro gb1088 hg w64 hbox hb; have n0_ := Yt.mk (Zm (by repeat (first | (with_reducible first | exact HB.out | apply Zb | apply Za | apply Zc) | exact HB.out)) hb); have n1_ := Yt.mk (hbox); have n2_ := Yt.mk ((by rw [hg]; exact (Zk (by repeat (first | (with_reducible first | exact HB.out | apply Zb | apply Za | apply Zc) | exact HB.out))) : w.heap.size ≤ gb1088)); have n3_ := Yt.mk ((by rw [hg]; exact (Zk (by repeat (first | (with_reducible first | exact HB.out | apply Zb | apply Za | apply Zc) | exact HB.out))) : w.heap.size ≤ gb1088)); clear HB; have HB := n0_; have BK1088 := n1_; have GW1088 := n2_; have GE1088 := n3_; clear n0_ n1_ n2_ n3_; clear hb hbox hg) | ((with_reducible refine Yk (N := 3) rfl ?_); refine Yo ?hg (N := 3) ?hd (cs := #[.bool a1_0, .slice A1_1 l1_1.length c1_1, .slice A1_2 l1_2.length c1_2]) (t := 50) ?hr ?_; (case hd => rfl); (case hg => rfl); (case hr => first | (go_simp; done) | (go_simp; rfl)); intro gb1089 hg w65 hbox hb; have n0_ := Yt.mk (Zq (g := gb1088) (o := .cells #[.bool a0_0, .slice A0_1 l0_1.length c0_1, .slice A0_2 l0_2.length c0_2] 50 (0, 0)) (by (with_reducible repeat (first | refine Zg ?_ _ | refine Zi ?_ | refine Zh ?_ _)); exact BK1088.out) hb); have n1_ := Yt.mk (Zm (by repeat (first | (with_reducible first | exact HB.out | apply Zb | apply Za | apply Zc | refine Zd ?_ GE1088.out) | exact HB.out)) hb); have n2_ := Yt.mk (hbox); have n3_ := Yt.mk ((by rw [hg]; exact (Zk (by repeat (first | (with_reducible first | exact HB.out | apply Zb | apply Za | apply Zc | refine Zd ?_ GE1088.out) | exact HB.out))) : w.heap.size ≤ gb1089)); have n4_ := Yt.mk ((by rw [hg]; exact (Zk (by repeat (first | (with_reducible first | exact HB.out | apply Zb | apply Za | apply Zc | refine Zd ?_ GE1088.out) | exact HB.out))) : w.heap.size ≤ gb1089)); have n5_ := Yt.mk ((by rw [hg]; exact Nat.ne_of_lt (blk_lt (g := gb1088) (o := .cells #[.bool a0_0, .slice A0_1 l0_1.length c0_1, .slice A0_2 l0_2.length c0_2] 50 (0, 0)) (by (with_reducible repeat (first | refine Zg ?_ _ | refine Zi ?_ | refine Zh ?_ _)); exact BK1088.out)) : gb1088 ≠ gb1089)); have n6_ := Yt.mk ((by rw [hg]; exact Nat.ne_of_gt (blk_lt (g := gb1088) (o := .cells #[.bool a0_0, .slice A0_1 l0_1.length c0_1, .slice A0_2 l0_2.length c0_2] 50 (0, 0)) (by (with_reducible repeat (first | refine Zg ?_ _ | refine Zi ?_ | refine Zh ?_ _)); exact BK1088.out)) : gb1089 ≠ gb1088)); clear BK1088; clear HB; have BK1088 := n0_; have HB := n1_; have BK1089 := n2_; have GW1089 := n3_; have GE1089 := n4_; have NB1088_1089 := n5_; have NB1089_1088 := n6_; clear n0_ n1_ n2_ n3_ n4_ n5_ n6_; clear hb hbox hg) | ((with_reducible refine Yk (N := 4) rfl ?_); refine Yo ?hg (N := 4) ?hd (cs := #[.bool false, .slice none 0 0, .slice none 0 0]) (t := 50) ?hr ?_; (case hd => rfl); (case hg => rfl); (case hr => first | (go_simp; done) | (go_simp; rfl)); intro gb1090 hg w66 hbox hb; have n0_ := Yt.mk (Zq (g := gb1088) (o := .cells #[.bool a0_0, .slice A0_1 l0_1.length c0_1, .slice A0_2 l0_2.length c0_2] 50 (0, 0)) (by (with_reducible repeat (first | refine Zg ?_ _ | refine Zi ?_ | refine Zh ?_ _)); exact BK1088.out) hb); have n1_ := Yt.mk (Zq (g := gb1089) (o := .cells #[.bool a1_0, .slice A1_1 l1_1.length c1_1, .slice A1_2 l1_2.length c1_2] 50 (0, 0)) (by (with_reducible repeat (first | refine Zg ?_ _ | refine Zi ?_ | refine Zh ?_ _)); exact BK1089.out) hb); have n2_ := Yt.mk (Zm (by repeat (first | (with_reducible first | exact HB.out | apply Zb | apply Za | apply Zc | refine Zd ?_ GE1088.out | refine Zd ?_ GE1089.out) | exact HB.out)) hb); have n3_ := Yt.mk (hbox); have n4_ := Yt.mk ((by rw [hg]; exact (Zk (by repeat (first | (with_reducible first | exact HB.out | apply Zb | apply Za | apply Zc | refine Zd ?_ GE1088.out | refine Zd ?_ GE1089.out) | exact HB.out))) : w.heap.size ≤ gb1090)); have n5_ := Yt.mk ((by rw [hg]; exact (Zk (by repeat (first | (with_reducible first | exact HB.out | apply Zb | apply Za | apply Zc | refine Zd ?_ GE1088.out | refine Zd ?_ GE1089.out) | exact HB.out))) : w.heap.size ≤ gb1090)); have n6_ := Yt.mk ((by rw [hg]; exact Nat.ne_of_lt (blk_lt (g := gb1088) (o := .cells #[.bool a0_0, .slice A0_1 l0_1.length c0_1, .slice A0_2 l0_2.length c0_2] 50 (0, 0)) (by (with_reducible repeat (first | refine Zg ?_ _ | refine Zi ?_ | refine Zh ?_ _)); exact BK1088.out)) : gb1088 ≠ gb1090)); have n7_ := Yt.mk ((by rw [hg]; exact Nat.ne_of_gt (blk_lt (g := gb1088) (o := .cells #[.bool a0_0, .slice A0_1 l0_1.length c0_1, .slice A0_2 l0_2.length c0_2] 50 (0, 0)) (by (with_reducible repeat (first | refine Zg ?_ _ | refine Zi ?_ | refine Zh ?_ _)); exact BK1088.out)) : gb1090 ≠ gb1088)); have n8_ := Yt.mk ((by rw [hg]; exact Nat.ne_of_lt (blk_lt (g := gb1089) (o := .cells #[.bool a1_0, .slice A1_1 l1_1.length c1_1, .slice A1_2 l1_2.length c1_2] 50 (0, 0)) (by (with_reducible repeat (first | refine Zg ?_ _ | refine Zi ?_ | refine Zh ?_ _)); exact BK1089.out)) : gb1089 ≠ gb1090)); have n9_ := Yt.mk ((by rw [hg]; exact Nat.ne_of_gt (blk_lt (g := gb1089) (o := .cells #[.bool a1_0, .slice A1_1 l1_1.length c1_1, .slice A1_2 l1_2.length c1_2] 50 (0, 0)) (by (with_reducible repeat (first | refine Zg ?_ _ | refine Zi ?_ | refine Zh ?_ _)); exact BK1089.out)) : gb1090 ≠ gb1089)); clear BK1088; clear BK1089; clear HB; have BK1088 := n0_; have BK1089 := n1_; have HB := n2_; have BK1090 := n3_; have GW1090 := n4_; have GE1090 := n5_; have NB1088_1090 := n6_; have NB1090_1088 := n7_; have NB1089_1090 := n8_; have NB1090_1089 := n9_; clear n0_ n1_ n2_ n3_ n4_ n5_ n6_ n7_ n8_ n9_; clear hb hbox hg))
   have n0_ := Yt.mk (Zi BK1088.out)
   have n1_ := Yt.mk (Zi BK1089.out)
   have n2_ := Yt.mk (Zi BK1090.out)
   have n3_ := Yt.mk (Zc HB.out)
   clear BK1088
   clear BK1089
   clear BK1090
   clear HB
   have BK1088 := n0_
   have BK1089 := n1_
   have BK1090 := n2_
   have HB := n3_
   clear n0_ n1_ n2_ n3_
   refine start_ (n := 18) (S := fun w' => w'.cell? ⟨gb1088, 0, none⟩ = some (.bool a0_0) ∧ w'.cell? ⟨gb1088, 1, none⟩ = some (.slice A0_1 l0_1.length c0_1) ∧ w'.cell? ⟨gb1088, 2, none⟩ = some (.slice A0_2 l0_2.length c0_2) ∧ w'.cell? ⟨gb1089, 0, none⟩ = some (.bool a1_0) ∧ w'.cell? ⟨gb1089, 1, none⟩ = some (.slice A1_1 l1_1.length c1_1) ∧ w'.cell? ⟨gb1089, 2, none⟩ = some (.slice A1_2 l1_2.length c1_2)) (ds := []) #[false, false, false, false, false, false, false, false, false, false, false, false, false, false, false, false, false, false] (by kernel_rfl) rfl rfl ⟨(Zl BK1088.out 0).trans rfl, (Zl BK1088.out 1).trans rfl, (Zl BK1088.out 2).trans rfl, (Zl BK1089.out 0).trans rfl, (Zl BK1089.out 1).trans rfl, (Zl BK1089.out 2).trans rfl⟩ (fun hHeld => ?_); refine with_tabW ratio_add.tab1 ratio_add.bits1 (fun HT_ HW_ => ?_)
   generalize w66.drew = w67 at BK1088 BK1089 BK1090 HB hHeld ⊢
   refine pure_ (i := 0) (N := some 9) (v := ?_) (a' := ?_) #[true, false, false, false, false, false, false, false, false, false, false, false, false, false, false, false, false, false] rfl rfl (any_of HT_.out (by kernel_rfl)) (fun _ _ _ h => h) (Or.inl ⟨by rfl, ?_⟩) ?_ ?_
   rotate_left
   ·intro w'
    go_simp
    with_reducible rfl
   rotate_left
   ·simp only [Act.put, List.setIfInBounds_toArray, List.set_cons_zero, List.set_cons_succ, Yi, Yj]
    rfl
   refine pure_ (i := 2) (N := some 11) (v := ?_) (a' := ?_) #[true, false, true, false, false, false, false, false, false, false, false, false, false, false, false, false, false, false] rfl rfl (any_of HT_.out (by kernel_rfl)) (fun _ _ _ h => h) (Or.inl ⟨by rfl, ?_⟩) ?_ ?_
   rotate_left
   ·intro w'
    go_simp
    with_reducible rfl
   rotate_left
   ·simp only [Act.put, List.setIfInBounds_toArray, List.set_cons_zero, List.set_cons_succ, Yi, Yj]
    rfl
   refine pure_ (i := 5) (N := some 14) (v := ?_) (a' := ?_) #[true, false, true, false, false, true, false, false, false, false, false, false, false, false, false, false, false, false] rfl rfl (any_of HT_.out (by kernel_rfl)) (fun _ _ _ h => h) (Or.inl ⟨by rfl, ?_⟩) ?_ ?_
   rotate_left
   ·intro w'
    go_simp
    with_reducible rfl
   rotate_left
   ·simp only [Act.put, List.setIfInBounds_toArray, List.set_cons_zero, List.set_cons_succ, Yi, Yj]
    rfl
   refine pure_ (i := 7) (N := some 16) (v := ?_) (a' := ?_) #[true, false, true, false, false, true, false, true, false, false, false, false, false, false, false, false, false, false] rfl rfl (any_of HT_.out (by kernel_rfl)) (fun _ _ _ h => h) (Or.inl ⟨by rfl, ?_⟩) ?_ ?_
   rotate_left
   ·intro w'
    go_simp
    with_reducible rfl
   rotate_left
   ·simp only [Act.put, List.setIfInBounds_toArray, List.set_cons_zero, List.set_cons_succ, Yi, Yj]
    rfl
   refine pure_ (i := 10) (N := some 19) (v := ?_) (a' := ?_) #[true, false, true, false, false, true, false, true, false, false, true, false, false, false, false, false, false, false] rfl rfl (any_of HT_.out (by kernel_rfl)) (fun _ _ _ h => h) (Or.inl ⟨by rfl, ?_⟩) ?_ ?_
   rotate_left
   ·intro w'
    go_simp
    with_reducible rfl
   rotate_left
   ·simp only [Act.put, List.setIfInBounds_toArray, List.set_cons_zero, List.set_cons_succ, Yi, Yj]
    rfl
   refine pure_ (i := 12) (N := some 21) (v := ?_) (a' := ?_) #[true, false, true, false, false, true, false, true, false, false, true, false, true, false, false, false, false, false] rfl rfl (any_of HT_.out (by kernel_rfl)) (fun _ _ _ h => h) (Or.inl ⟨by rfl, ?_⟩) ?_ ?_
   rotate_left
   ·intro w'
    go_simp
    with_reducible rfl
   rotate_left
   ·simp only [Act.put, List.setIfInBounds_toArray, List.set_cons_zero, List.set_cons_succ, Yi, Yj]
    rfl
   refine take_ (i := 1) (N := some 10) (v := ?_) (a' := ?_) #[true, true, true, false, false, true, false, true, false, false, true, false, true, false, false, false, false, false] rfl rfl (take_ofW HT_.out HW_.out (by kernel_rfl)) (fun _ _ _ h => h) (Or.inl ⟨by rfl, ?_⟩) hHeld ?_ ?_
   rotate_left
   ·rintro w' ⟨s0, s1, s2, s3, s4, s5⟩
    go_simp
    with_reducible rfl
   rotate_left
   ·simp only [Act.put, List.setIfInBounds_toArray, List.set_cons_zero, List.set_cons_succ, Yi, Yj]
    rfl
   refine take_ (i := 3) (N := some 12) (v := ?_) (a' := ?_) #[true, true, true, true, false, true, false, true, false, false, true, false, true, false, false, false, false, false] rfl rfl (take_ofW HT_.out HW_.out (by kernel_rfl)) (fun _ _ _ h => h) (Or.inl ⟨by rfl, ?_⟩) hHeld ?_ ?_
   rotate_left
   ·rintro w' ⟨s0, s1, s2, s3, s4, s5⟩
    go_simp
    with_reducible rfl
   rotate_left
   ·simp only [Act.put, List.setIfInBounds_toArray, List.set_cons_zero, List.set_cons_succ, Yi, Yj]
    rfl
   refine take_ (i := 6) (N := some 15) (v := ?_) (a' := ?_) #[true, true, true, true, false, true, true, true, false, false, true, false, true, false, false, false, false, false] rfl rfl (take_ofW HT_.out HW_.out (by kernel_rfl)) (fun _ _ _ h => h) (Or.inl ⟨by rfl, ?_⟩) hHeld ?_ ?_
   rotate_left
   ·rintro w' ⟨s0, s1, s2, s3, s4, s5⟩
    go_simp
    with_reducible rfl
   rotate_left
   ·simp only [Act.put, List.setIfInBounds_toArray, List.set_cons_zero, List.set_cons_succ, Yi, Yj]
    rfl
   refine take_ (i := 8) (N := some 17) (v := ?_) (a' := ?_) #[true, true, true, true, false, true, true, true, true, false, true, false, true, false, false, false, false, false] rfl rfl (take_ofW HT_.out HW_.out (by kernel_rfl)) (fun _ _ _ h => h) (Or.inl ⟨by rfl, ?_⟩) hHeld ?_ ?_
   rotate_left
   ·rintro w' ⟨s0, s1, s2, s3, s4, s5⟩
    go_simp
    with_reducible rfl
   rotate_left
   ·simp only [Act.put, List.setIfInBounds_toArray, List.set_cons_zero, List.set_cons_succ, Yi, Yj]
    rfl
   refine take_ (i := 11) (N := some 20) (v := ?_) (a' := ?_) #[true, true, true, true, false, true, true, true, true, false, true, true, true, false, false, false, false, false] rfl rfl (take_ofW HT_.out HW_.out (by kernel_rfl)) (fun _ _ _ h => h) (Or.inl ⟨by rfl, ?_⟩) hHeld ?_ ?_
   rotate_left
   ·rintro w' ⟨s0, s1, s2, s3, s4, s5⟩
    go_simp
    with_reducible rfl
   rotate_left
   ·simp only [Act.put, List.setIfInBounds_toArray, List.set_cons_zero, List.set_cons_succ, Yi, Yj]
    rfl
   refine take_ (i := 13) (N := some 22) (v := ?_) (a' := ?_) #[true, true, true, true, false, true, true, true, true, false, true, true, true, true, false, false, false, false] rfl rfl (take_ofW HT_.out HW_.out (by kernel_rfl)) (fun _ _ _ h => h) (Or.inl ⟨by rfl, ?_⟩) hHeld ?_ ?_
   rotate_left
   ·rintro w' ⟨s0, s1, s2, s3, s4, s5⟩
    go_simp
    with_reducible rfl
   rotate_left
   ·simp only [Act.put, List.setIfInBounds_toArray, List.set_cons_zero, List.set_cons_succ, Yi, Yj]
    rfl
   refine one_ (i := 4) (N := some 13) #[true, true, true, true, true, true, true, true, true, false, true, true, true, true, false, false, false, false] rfl rfl (one_of HT_.out (by kernel_rfl)) (by decide) (fun K hK => ?_)
   refine goes_ Try.func81 (by kernel_rfl) rfl #[.slice A0_1 l0_1.length c0_1, .slice A1_2 l1_2.length c1_2] (by rfl) rfl rfl (by (try simp only [List.map_toArray, List.map_cons, List.map_nil]); first | done | rfl | (simp only [List.length_drop, List.length_take]; rfl)) ?_
   with_reducible refine (nats_Mul.calls k _ _ l0_1 _ _ l1_2 t1091 _ ?side1 ?side2 ?side3 ?side4 A3.out).mono ?_
   (case side1 => repeat (first | exact (Kd.Ys HR0_1.out HB.out) | (with_reducible refine Kd.Zu ?_ _) | (with_reducible refine Kd.Zt ?_ _) | (with_reducible refine Kd.Yc ?_)))
   (case side2 => exact HC0_1.out)
   (case side3 => repeat (first | exact (Kd.Ys HR1_2.out HB.out) | (with_reducible refine Kd.Zu ?_ _) | (with_reducible refine Kd.Zt ?_ _) | (with_reducible refine Kd.Yc ?_)))
   (case side4 => exact HC1_2.out)
   rintro e w68 ⟨v1092, rfl, ho0, hb⟩
   refine ⟨_, rfl, ?_⟩
   have n0_ := Yt.mk (Kd.Yb ho0 (Zk (by repeat (first | (with_reducible first | exact HB.out | apply Zb | apply Za | apply Zc | refine Zd ?_ GE1088.out | refine Zd ?_ GE1089.out | refine Zd ?_ GE1090.out) | exact HB.out))))
   have n1_ := Yt.mk (Zq (g := gb1088) (o := .cells #[.bool a0_0, .slice A0_1 l0_1.length c0_1, .slice A0_2 l0_2.length c0_2] 50 (0, 0)) (by (with_reducible repeat (first | refine Zg ?_ _ | refine Zi ?_ | refine Zh ?_ _)); exact BK1088.out) hb)
   have n2_ := Yt.mk (Zq (g := gb1089) (o := .cells #[.bool a1_0, .slice A1_1 l1_1.length c1_1, .slice A1_2 l1_2.length c1_2] 50 (0, 0)) (by (with_reducible repeat (first | refine Zg ?_ _ | refine Zi ?_ | refine Zh ?_ _)); exact BK1089.out) hb)
   have n3_ := Yt.mk (Zq (g := gb1090) (o := .cells #[.bool false, .slice none 0 0, .slice none 0 0] 50 (0, 0)) (by (with_reducible repeat (first | refine Zg ?_ _ | refine Zi ?_ | refine Zh ?_ _)); exact BK1090.out) hb)
   have n4_ := Yt.mk (Zm (by repeat (first | (with_reducible first | exact HB.out | apply Zb | apply Za | apply Zc | refine Zd ?_ GE1088.out | refine Zd ?_ GE1089.out | refine Zd ?_ GE1090.out) | exact HB.out)) hb)
   clear BK1088
   clear BK1089
   clear BK1090
   clear HB
   have HO1093 := n0_
   have BK1088 := n1_
   have BK1089 := n2_
   have BK1090 := n3_
   have HB := n4_
   clear n0_ n1_ n2_ n3_ n4_
   (try clear hb)
   (try clear hb2)
   (try clear hk)
   (try clear hi)
   (try clear ho0)
   refine hK.out _ _ ⟨(Zl BK1088.out 0).trans rfl, (Zl BK1088.out 1).trans rfl, (Zl BK1088.out 2).trans rfl, (Zl BK1089.out 0).trans rfl, (Zl BK1089.out 1).trans rfl, (Zl BK1089.out 2).trans rfl⟩ (fun hHeld => ?_)
   clear hK K
   refine norm_ (a' := ?_) ?_ ?_
   rotate_left
   ·show Act.put _ (some 13) _ = _
    simp only [Act.put, List.setIfInBounds_toArray, List.set_cons_zero, List.set_cons_succ, Yi, Yj]
    rfl
   refine one_ (i := 9) (N := some 18) #[true, true, true, true, true, true, true, true, true, true, true, true, true, true, false, false, false, false] rfl rfl (one_of HT_.out (by kernel_rfl)) (by decide) (fun K hK => ?_)
   refine goes_ Try.func81 (by kernel_rfl) rfl #[.slice A1_1 l1_1.length c1_1, .slice A0_2 l0_2.length c0_2] (by rfl) rfl rfl (by (try simp only [List.map_toArray, List.map_cons, List.map_nil]); first | done | rfl | (simp only [List.length_drop, List.length_take]; rfl)) ?_
   with_reducible refine (nats_Mul.calls k _ _ l1_1 _ _ l0_2 t1094 _ ?side1 ?side2 ?side3 ?side4 A4.out).mono ?_
   (case side1 => repeat (first | exact (Kd.Ys HR1_1.out HB.out) | (with_reducible refine Kd.Zu ?_ _) | (with_reducible refine Kd.Zt ?_ _) | (with_reducible refine Kd.Yc ?_)))
   (case side2 => exact HC1_1.out)
   (case side3 => repeat (first | exact (Kd.Ys HR0_2.out HB.out) | (with_reducible refine Kd.Zu ?_ _) | (with_reducible refine Kd.Zt ?_ _) | (with_reducible refine Kd.Yc ?_)))
   (case side4 => exact HC0_2.out)
   rintro e w69 ⟨v1095, rfl, ho0, hb⟩
   refine ⟨_, rfl, ?_⟩
   have n0_ := Yt.mk (Kd.Yf (by (with_reducible repeat (first | apply Kd.Zf | apply Kd.Ze | apply Kd.Zj)); exact HO1093.out) (Kd.Zw ho0) hb)
   have n1_ := Yt.mk (Kd.Yb (Kd.Ya ho0 (Kd.R_lt (by (with_reducible repeat (first | apply Kd.Zf | apply Kd.Ze | apply Kd.Zj)); exact HO1093.out))) (Zk (by repeat (first | (with_reducible first | exact HB.out | apply Zb | apply Za | apply Zc | refine Zd ?_ GE1088.out | refine Zd ?_ GE1089.out | refine Zd ?_ GE1090.out) | exact HB.out))))
   have n2_ := Yt.mk (Zq (g := gb1088) (o := .cells #[.bool a0_0, .slice A0_1 l0_1.length c0_1, .slice A0_2 l0_2.length c0_2] 50 (0, 0)) (by (with_reducible repeat (first | refine Zg ?_ _ | refine Zi ?_ | refine Zh ?_ _)); exact BK1088.out) hb)
   have n3_ := Yt.mk (Zq (g := gb1089) (o := .cells #[.bool a1_0, .slice A1_1 l1_1.length c1_1, .slice A1_2 l1_2.length c1_2] 50 (0, 0)) (by (with_reducible repeat (first | refine Zg ?_ _ | refine Zi ?_ | refine Zh ?_ _)); exact BK1089.out) hb)
   have n4_ := Yt.mk (Zq (g := gb1090) (o := .cells #[.bool false, .slice none 0 0, .slice none 0 0] 50 (0, 0)) (by (with_reducible repeat (first | refine Zg ?_ _ | refine Zi ?_ | refine Zh ?_ _)); exact BK1090.out) hb)
   have n5_ := Yt.mk (Zm (by repeat (first | (with_reducible first | exact HB.out | apply Zb | apply Za | apply Zc | refine Zd ?_ GE1088.out | refine Zd ?_ GE1089.out | refine Zd ?_ GE1090.out) | exact HB.out)) hb)
   clear HO1093
   clear BK1088
   clear BK1089
   clear BK1090
   clear HB
   have HO1093 := n0_
   have HO1096 := n1_
   have BK1088 := n2_
   have BK1089 := n3_
   have BK1090 := n4_
   have HB := n5_
   clear n0_ n1_ n2_ n3_ n4_ n5_
   (try clear hb)
   (try clear hb2)
   (try clear hk)
   (try clear hi)
   (try clear ho0)
   refine hK.out _ _ ⟨(Zl BK1088.out 0).trans rfl, (Zl BK1088.out 1).trans rfl, (Zl BK1088.out 2).trans rfl, (Zl BK1089.out 0).trans rfl, (Zl BK1089.out 1).trans rfl, (Zl BK1089.out 2).trans rfl⟩ (fun hHeld => ?_)
   clear hK K
   refine norm_ (a' := ?_) ?_ ?_
   rotate_left
   ·show Act.put _ (some 18) _ = _
    simp only [Act.put, List.setIfInBounds_toArray, List.set_cons_zero, List.set_cons_succ, Yi, Yj]
    rfl
   refine one_ (i := 14) (N := some 23) #[true, true, true, true, true, true, true, true, true, true, true, true, true, true, true, false, false, false] rfl rfl (one_of HT_.out (by kernel_rfl)) (by decide) (fun K hK => ?_)
   refine goes_ Try.func81 (by kernel_rfl) rfl #[.slice A0_2 l0_2.length c0_2, .slice A1_2 l1_2.length c1_2] (by rfl) rfl rfl (by (try simp only [List.map_toArray, List.map_cons, List.map_nil]); first | done | rfl | (simp only [List.length_drop, List.length_take]; rfl)) ?_
   with_reducible refine (nats_Mul.calls k _ _ l0_2 _ _ l1_2 t1097 _ ?side1 ?side2 ?side3 ?side4 A5.out).mono ?_
   (case side1 => repeat (first | exact (Kd.Ys HR0_2.out HB.out) | (with_reducible refine Kd.Zu ?_ _) | (with_reducible refine Kd.Zt ?_ _) | (with_reducible refine Kd.Yc ?_)))
   (case side2 => exact HC0_2.out)
   (case side3 => repeat (first | exact (Kd.Ys HR1_2.out HB.out) | (with_reducible refine Kd.Zu ?_ _) | (with_reducible refine Kd.Zt ?_ _) | (with_reducible refine Kd.Yc ?_)))
   (case side4 => exact HC1_2.out)
   rintro e w70 ⟨v1098, rfl, ho0, hb⟩
   refine ⟨_, rfl, ?_⟩
   have n0_ := Yt.mk (Kd.Yf (by (with_reducible repeat (first | apply Kd.Zf | apply Kd.Ze | apply Kd.Zj)); exact HO1093.out) (Kd.Zw ho0) hb)
   have n1_ := Yt.mk (Kd.Yf (by (with_reducible repeat (first | apply Kd.Zf | apply Kd.Ze | apply Kd.Zj)); exact HO1096.out) (Kd.Zw ho0) hb)
   have n2_ := Yt.mk (Kd.Yb (Kd.Ya (Kd.Ya ho0 (Kd.R_lt (by (with_reducible repeat (first | apply Kd.Zf | apply Kd.Ze | apply Kd.Zj)); exact HO1093.out))) (Kd.R_lt (by (with_reducible repeat (first | apply Kd.Zf | apply Kd.Ze | apply Kd.Zj)); exact HO1096.out))) (Zk (by repeat (first | (with_reducible first | exact HB.out | apply Zb | apply Za | apply Zc | refine Zd ?_ GE1088.out | refine Zd ?_ GE1089.out | refine Zd ?_ GE1090.out) | exact HB.out))))
   have n3_ := Yt.mk (Zq (g := gb1088) (o := .cells #[.bool a0_0, .slice A0_1 l0_1.length c0_1, .slice A0_2 l0_2.length c0_2] 50 (0, 0)) (by (with_reducible repeat (first | refine Zg ?_ _ | refine Zi ?_ | refine Zh ?_ _)); exact BK1088.out) hb)
   have n4_ := Yt.mk (Zq (g := gb1089) (o := .cells #[.bool a1_0, .slice A1_1 l1_1.length c1_1, .slice A1_2 l1_2.length c1_2] 50 (0, 0)) (by (with_reducible repeat (first | refine Zg ?_ _ | refine Zi ?_ | refine Zh ?_ _)); exact BK1089.out) hb)
   have n5_ := Yt.mk (Zq (g := gb1090) (o := .cells #[.bool false, .slice none 0 0, .slice none 0 0] 50 (0, 0)) (by (with_reducible repeat (first | refine Zg ?_ _ | refine Zi ?_ | refine Zh ?_ _)); exact BK1090.out) hb)
   have n6_ := Yt.mk (Zm (by repeat (first | (with_reducible first | exact HB.out | apply Zb | apply Za | apply Zc | refine Zd ?_ GE1088.out | refine Zd ?_ GE1089.out | refine Zd ?_ GE1090.out) | exact HB.out)) hb)
   clear HO1093
   clear HO1096
   clear BK1088
   clear BK1089
   clear BK1090
   clear HB
   have HO1093 := n0_
   have HO1096 := n1_
   have HO1099 := n2_
   have BK1088 := n3_
   have BK1089 := n4_
   have BK1090 := n5_
   have HB := n6_
   clear n0_ n1_ n2_ n3_ n4_ n5_ n6_
   (try clear hb)
   (try clear hb2)
   (try clear hk)
   (try clear hi)
   (try clear ho0)
   refine hK.out _ _ ⟨(Zl BK1088.out 0).trans rfl, (Zl BK1088.out 1).trans rfl, (Zl BK1088.out 2).trans rfl, (Zl BK1089.out 0).trans rfl, (Zl BK1089.out 1).trans rfl, (Zl BK1089.out 2).trans rfl⟩ (fun hHeld => ?_)
   clear hK K
   refine norm_ (a' := ?_) ?_ ?_
   rotate_left
   ·show Act.put _ (some 23) _ = _
    simp only [Act.put, List.setIfInBounds_toArray, List.set_cons_zero, List.set_cons_succ, Yi, Yj]
    rfl
   refine pure_ (i := 15) (N := some 6) (v := ?_) (a' := ?_) #[true, true, true, true, true, true, true, true, true, true, true, true, true, true, true, true, false, false] rfl rfl (any_of HT_.out (by kernel_rfl)) (fun _ _ _ h => h) (Or.inl ⟨by rfl, ?_⟩) ?_ ?_
   rotate_left
   ·intro w'
    go_simp
    with_reducible rfl
   rotate_left
   ·simp only [Act.put, List.setIfInBounds_toArray, List.set_cons_zero, List.set_cons_succ, Yi, Yj]
    rfl
   refine pure_ (i := 16) (N := some 7) (v := ?_) (a' := ?_) #[true, true, true, true, true, true, true, true, true, true, true, true, true, true, true, true, true, false] rfl rfl (any_of HT_.out (by kernel_rfl)) (fun _ _ _ h => h) (Or.inl ⟨by rfl, ?_⟩) ?_ ?_
   rotate_left
   ·intro w'
    go_simp
    with_reducible rfl
   rotate_left
   ·simp only [Act.put, List.setIfInBounds_toArray, List.set_cons_zero, List.set_cons_succ, Yi, Yj]
    rfl
   refine pure_ (i := 17) (N := some 8) (v := ?_) (a' := ?_) #[true, true, true, true, true, true, true, true, true, true, true, true, true, true, true, true, true, true] rfl rfl (any_of HT_.out (by kernel_rfl)) (fun _ _ _ h => h) (Or.inl ⟨by rfl, ?_⟩) ?_ ?_
   rotate_left
   ·intro w'
    go_simp
    with_reducible rfl
   rotate_left
   ·simp only [Act.put, List.setIfInBounds_toArray, List.set_cons_zero, List.set_cons_succ, Yi, Yj]
    rfl
   refine done_ (done_of HT_.out (by kernel_rfl)) ?_
   have hnb71 := NB1088_1089.out
   have hnc71 := NB1089_1088.out
   have hnb72 := NB1088_1090.out
   have hnc72 := NB1090_1088.out
   have hcz73_0 : w70.cell? ⟨gb1088, 0, none⟩ = some (.bool a0_0) := (Zl BK1088.out 0).trans rfl
   have hcz73_1 : w70.cell? ⟨gb1088, 1, none⟩ = some (.slice A0_1 l0_1.length c0_1) := (Zl BK1088.out 1).trans rfl
   have hcz73_2 : w70.cell? ⟨gb1088, 2, none⟩ = some (.slice A0_2 l0_2.length c0_2) := (Zl BK1088.out 2).trans rfl
   have hfz73_0 := Zn BK1088.out 0
   have hfz73_1 := Zn BK1088.out 1
   have hfz73_2 := Zn BK1088.out 2
   have hnb74 := NB1089_1090.out
   have hnc74 := NB1090_1089.out
   have hcz75_0 : w70.cell? ⟨gb1089, 0, none⟩ = some (.bool a1_0) := (Zl BK1089.out 0).trans rfl
   have hcz75_1 : w70.cell? ⟨gb1089, 1, none⟩ = some (.slice A1_1 l1_1.length c1_1) := (Zl BK1089.out 1).trans rfl
   have hcz75_2 : w70.cell? ⟨gb1089, 2, none⟩ = some (.slice A1_2 l1_2.length c1_2) := (Zl BK1089.out 2).trans rfl
   have hfz75_0 := Zn BK1089.out 0
   have hfz75_1 := Zn BK1089.out 1
   have hfz75_2 := Zn BK1089.out 2
   obtain ⟨Ao76, co76, eo76⟩ := Kd.Zx HO1093.out
   subst eo76
   obtain ⟨Ao77, co77, eo77⟩ := Kd.Zx HO1096.out
   subst eo77
   try go_wp2_with (first | ((with_reducible refine Zr (f := 89) rfl ?_); refine Yg (some 40) rfl rfl Try.func89 (by kernel_rfl) rfl #[.slice Ao76 t1091.length co76, .slice Ao77 t1094.length co77] rfl (by (try simp only [List.map_toArray, List.map_cons, List.map_nil]); first | done | rfl | (simp only [List.length_drop, List.length_take]; rfl)) ?_; (with_reducible refine (nats_Cmp.calls k _ _ t1091 _ _ t1094 t1111 _ ?side1 ?side2 ?side3 ?side4 A33.out).mono ?_); (case side1 => repeat (first | exact (Kd.Zs HO1093.out).2.2 | (with_reducible refine Kd.Zu ?_ _) | (with_reducible refine Kd.Zt ?_ _) | (with_reducible refine Kd.Yc ?_))); (case side2 => exact (Kd.Zs HO1093.out).2.1); (case side3 => repeat (first | exact (Kd.Zs HO1096.out).2.2 | (with_reducible refine Kd.Zu ?_ _) | (with_reducible refine Kd.Zt ?_ _) | (with_reducible refine Kd.Yc ?_))); (case side4 => exact (Kd.Zs HO1096.out).2.1); rintro e w78 ⟨rfl, hb⟩; refine ⟨_, rfl, ?_⟩; have n0_ := Yt.mk (Kd.Yd (by (with_reducible repeat (first | apply Kd.Zf | apply Kd.Ze | apply Kd.Zj)); exact HO1093.out) hb); have n1_ := Yt.mk (Kd.Yd (by (with_reducible repeat (first | apply Kd.Zf | apply Kd.Ze | apply Kd.Zj)); exact HO1096.out) hb); have n2_ := Yt.mk (Kd.Yd (by (with_reducible repeat (first | apply Kd.Zf | apply Kd.Ze | apply Kd.Zj)); exact HO1099.out) hb); have n3_ := Yt.mk (Zq (g := gb1088) (o := .cells #[.bool a0_0, .slice A0_1 l0_1.length c0_1, .slice A0_2 l0_2.length c0_2] 50 (0, 0)) (by (with_reducible repeat (first | refine Zg ?_ _ | refine Zi ?_ | refine Zh ?_ _)); exact BK1088.out) hb); have n4_ := Yt.mk (Zq (g := gb1089) (o := .cells #[.bool a1_0, .slice A1_1 l1_1.length c1_1, .slice A1_2 l1_2.length c1_2] 50 (0, 0)) (by (with_reducible repeat (first | refine Zg ?_ _ | refine Zi ?_ | refine Zh ?_ _)); exact BK1089.out) hb); have n5_ := Yt.mk (Zq (g := gb1090) (o := .cells #[.bool false, .slice none 0 0, .slice none 0 0] 50 (0, 0)) (by (with_reducible repeat (first | refine Zg ?_ _ | refine Zi ?_ | refine Zh ?_ _)); exact BK1090.out) hb); have n6_ := Yt.mk (Zm (by repeat (first | (with_reducible first | exact HB.out | apply Zb | apply Za | apply Zc | refine Zd ?_ GE1088.out | refine Zd ?_ GE1089.out | refine Zd ?_ GE1090.out) | exact HB.out)) hb); clear HO1093; clear HO1096; clear HO1099; clear BK1088; clear BK1089; clear BK1090; clear HB; have HO1093 := n0_; have HO1096 := n1_; have HO1099 := n2_; have BK1088 := n3_; have BK1089 := n4_; have BK1090 := n5_; have HB := n6_; clear n0_ n1_ n2_ n3_ n4_ n5_ n6_; (try clear hb); (try clear hb2); (try clear hk); (try clear hi)))
   have n0_ := Yt.mk (Kd.Zj HO1093.out)
   have n1_ := Yt.mk (Kd.Zj HO1096.out)
   have n2_ := Yt.mk (Kd.Zj HO1099.out)
   have n3_ := Yt.mk (Zi BK1088.out)
   have n4_ := Yt.mk (Zi BK1089.out)
   have n5_ := Yt.mk (Zi BK1090.out)
   have n6_ := Yt.mk (Zc HB.out)
   clear HO1093
   clear HO1096
   clear HO1099
   clear BK1088
   clear BK1089
   clear BK1090
   clear HB
   have HO1093 := n0_
   have HO1096 := n1_
   have HO1099 := n2_
   have BK1088 := n3_
   have BK1089 := n4_
   have BK1090 := n5_
   have HB := n6_
   clear n0_ n1_ n2_ n3_ n4_ n5_ n6_
   refine start_ (n := 11) (S := fun w' => w'.cell? ⟨gb1088, 0, none⟩ = some (.bool a0_0) ∧ w'.cell? ⟨gb1088, 1, none⟩ = some (.slice A0_1 l0_1.length c0_1) ∧ w'.cell? ⟨gb1088, 2, none⟩ = some (.slice A0_2 l0_2.length c0_2)) (ds := []) #[false, false, false, false, false, false, false, false, false, false, false] (by kernel_rfl) rfl rfl ⟨(Zl BK1088.out 0).trans rfl, (Zl BK1088.out 1).trans rfl, (Zl BK1088.out 2).trans rfl⟩ (fun hHeld => ?_); refine with_tabW ratio_add.tab6 ratio_add.bits6 (fun HT_ HW_ => ?_)
   generalize w78.drew = w79 at HO1093 HO1096 HO1099 BK1088 BK1089 BK1090 HB hHeld ⊢
   refine pure_ (i := 0) (N := some 51) (v := ?_) (a' := ?_) #[true, false, false, false, false, false, false, false, false, false, false] rfl rfl (any_of HT_.out (by kernel_rfl)) (fun _ _ _ h => h) (Or.inl ⟨by rfl, ?_⟩) ?_ ?_
   rotate_left
   ·intro w'
    go_simp
    with_reducible rfl
   rotate_left
   ·simp only [Act.put, List.setIfInBounds_toArray, List.set_cons_zero, List.set_cons_succ, Yi, Yj]
    rfl
   refine pure_ (i := 2) (N := some 53) (v := ?_) (a' := ?_) #[true, false, true, false, false, false, false, false, false, false, false] rfl rfl (any_of HT_.out (by kernel_rfl)) (fun _ _ _ h => h) (Or.inl ⟨by rfl, ?_⟩) ?_ ?_
   rotate_left
   ·intro w'
    go_simp
    with_reducible rfl
   rotate_left
   ·simp only [Act.put, List.setIfInBounds_toArray, List.set_cons_zero, List.set_cons_succ, Yi, Yj]
    rfl
   refine pure_ (i := 3) (N := some 54) (v := ?_) (a' := ?_) #[true, false, true, true, false, false, false, false, false, false, false] rfl rfl (any_of HT_.out (by kernel_rfl)) (fun _ _ _ h => h) (Or.inl ⟨by rfl, ?_⟩) ?_ ?_
   rotate_left
   ·intro w'
    go_simp
    with_reducible rfl
   rotate_left
   ·simp only [Act.put, List.setIfInBounds_toArray, List.set_cons_zero, List.set_cons_succ, Yi, Yj]
    rfl
   refine pure_ (i := 5) (N := some 56) (v := ?_) (a' := ?_) #[true, false, true, true, false, true, false, false, false, false, false] rfl rfl (any_of HT_.out (by kernel_rfl)) (fun _ _ _ h => h) (Or.inl ⟨by rfl, ?_⟩) ?_ ?_
   rotate_left
   ·intro w'
    go_simp
    with_reducible rfl
   rotate_left
   ·simp only [Act.put, List.setIfInBounds_toArray, List.set_cons_zero, List.set_cons_succ, Yi, Yj]
    rfl
   refine take_ (i := 1) (N := some 52) (v := ?_) (a' := ?_) #[true, true, true, true, false, true, false, false, false, false, false] rfl rfl (take_ofW HT_.out HW_.out (by kernel_rfl)) (fun _ _ _ h => h) (Or.inl ⟨by rfl, ?_⟩) hHeld ?_ ?_
   rotate_left
   ·rintro w' ⟨s0, s1, s2⟩
    go_simp
    with_reducible rfl
   rotate_left
   ·simp only [Act.put, List.setIfInBounds_toArray, List.set_cons_zero, List.set_cons_succ, Yi, Yj]
    rfl
   refine one_ (i := 4) (N := some 55) #[true, true, true, true, true, true, false, false, false, false, false] rfl rfl (one_of HT_.out (by kernel_rfl)) (by decide) (fun K hK => ?_)
   refine goes_ Try.func94 (by kernel_rfl) rfl #[.slice Ao76 t1091.length co76, .slice Ao77 t1094.length co77] (by rfl) rfl rfl (by (try simp only [List.map_toArray, List.map_cons, List.map_nil]); first | done | rfl | (simp only [List.length_drop, List.length_take]; rfl)) ?_
   with_reducible refine (nats_Sub.calls k _ _ t1091 _ _ t1094 t1123 _ ?side1 ?side2 ?side3 ?side4 A62.out).mono ?_
   (case side1 => repeat (first | exact (Kd.Zs HO1093.out).2.2 | (with_reducible refine Kd.Zu ?_ _) | (with_reducible refine Kd.Zt ?_ _) | (with_reducible refine Kd.Yc ?_)))
   (case side2 => exact (Kd.Zs HO1093.out).2.1)
   (case side3 => repeat (first | exact (Kd.Zs HO1096.out).2.2 | (with_reducible refine Kd.Zu ?_ _) | (with_reducible refine Kd.Zt ?_ _) | (with_reducible refine Kd.Yc ?_)))
   (case side4 => exact (Kd.Zs HO1096.out).2.1)
   rintro e w80 ⟨v1124, rfl, ho0, hb⟩
   refine ⟨_, rfl, ?_⟩
   have n0_ := Yt.mk (Kd.Yf (by (with_reducible repeat (first | apply Kd.Zf | apply Kd.Ze | apply Kd.Zj)); exact HO1093.out) (Kd.Zw ho0) hb)
   have n1_ := Yt.mk (Kd.Yf (by (with_reducible repeat (first | apply Kd.Zf | apply Kd.Ze | apply Kd.Zj)); exact HO1096.out) (Kd.Zw ho0) hb)
   have n2_ := Yt.mk (Kd.Yf (by (with_reducible repeat (first | apply Kd.Zf | apply Kd.Ze | apply Kd.Zj)); exact HO1099.out) (Kd.Zw ho0) hb)
   have n3_ := Yt.mk (Kd.Yb (Kd.Ya (Kd.Ya (Kd.Ya ho0 (Kd.R_lt (by (with_reducible repeat (first | apply Kd.Zf | apply Kd.Ze | apply Kd.Zj)); exact HO1093.out))) (Kd.R_lt (by (with_reducible repeat (first | apply Kd.Zf | apply Kd.Ze | apply Kd.Zj)); exact HO1096.out))) (Kd.R_lt (by (with_reducible repeat (first | apply Kd.Zf | apply Kd.Ze | apply Kd.Zj)); exact HO1099.out))) (Zk (by repeat (first | (with_reducible first | exact HB.out | apply Zb | apply Za | apply Zc | refine Zd ?_ GE1088.out | refine Zd ?_ GE1089.out | refine Zd ?_ GE1090.out) | exact HB.out))))
   have n4_ := Yt.mk (Zq (g := gb1088) (o := .cells #[.bool a0_0, .slice A0_1 l0_1.length c0_1, .slice A0_2 l0_2.length c0_2] 50 (0, 0)) (by (with_reducible repeat (first | refine Zg ?_ _ | refine Zi ?_ | refine Zh ?_ _)); exact BK1088.out) hb)
   have n5_ := Yt.mk (Zq (g := gb1089) (o := .cells #[.bool a1_0, .slice A1_1 l1_1.length c1_1, .slice A1_2 l1_2.length c1_2] 50 (0, 0)) (by (with_reducible repeat (first | refine Zg ?_ _ | refine Zi ?_ | refine Zh ?_ _)); exact BK1089.out) hb)
   have n6_ := Yt.mk (Zq (g := gb1090) (o := .cells #[.bool false, .slice none 0 0, .slice none 0 0] 50 (0, 0)) (by (with_reducible repeat (first | refine Zg ?_ _ | refine Zi ?_ | refine Zh ?_ _)); exact BK1090.out) hb)
   have n7_ := Yt.mk (Zm (by repeat (first | (with_reducible first | exact HB.out | apply Zb | apply Za | apply Zc | refine Zd ?_ GE1088.out | refine Zd ?_ GE1089.out | refine Zd ?_ GE1090.out) | exact HB.out)) hb)
   clear HO1093
   clear HO1096
   clear HO1099
   clear BK1088
   clear BK1089
   clear BK1090
   clear HB
   have HO1093 := n0_
   have HO1096 := n1_
   have HO1099 := n2_
   have HO1125 := n3_
   have BK1088 := n4_
   have BK1089 := n5_
   have BK1090 := n6_
   have HB := n7_
   clear n0_ n1_ n2_ n3_ n4_ n5_ n6_ n7_
   (try clear hb)
   (try clear hb2)
   (try clear hk)
   (try clear hi)
   (try clear ho0)
   obtain ⟨Ao81, co81, eo81⟩ := Kd.Zx HO1125.out
   (first | subst eo81 | (injection eo81 with f1_ f2_ f3_; have f4_ := f1_.symm; have f5_ := f3_.symm; clear f1_ f2_ f3_; subst f4_; subst f5_))
   obtain ⟨Ao82, co82, eo82⟩ := Kd.Zx HO1099.out
   (first | subst eo82 | (injection eo82 with f1_ f2_ f3_; have f4_ := f1_.symm; have f5_ := f3_.symm; clear f1_ f2_ f3_; subst f4_; subst f5_))
   refine hK.out _ _ ⟨(Zl BK1088.out 0).trans rfl, (Zl BK1088.out 1).trans rfl, (Zl BK1088.out 2).trans rfl⟩ (fun hHeld => ?_)
   clear hK K
   refine norm_ (a' := ?_) ?_ ?_
   rotate_left
   ·show Act.put _ (some 55) _ = _
    simp only [Act.put, List.setIfInBounds_toArray, List.set_cons_zero, List.set_cons_succ, Yi, Yj]
    rfl
   refine one_ (i := 6) (N := some 57) #[true, true, true, true, true, true, true, false, false, false, false] rfl rfl (one_of HT_.out (by kernel_rfl)) (by decide) (fun K hK => ?_)
   refine goes_ Try.func48 (by kernel_rfl) rfl #[.bool a0_0, .slice Ao81 t1123.length co81, .slice Ao82 t1097.length co82] (by rfl) rfl rfl (by (try simp only [List.map_toArray, List.map_cons, List.map_nil]); first | done | rfl | (simp only [List.length_drop, List.length_take]; rfl)) ?_
   with_reducible refine (ratio_Make.calls k a0_0 _ _ t1123 _ _ t1097 t1126 t1127 t1130 t1133 _ ?side1 ?side2 ?side3 ?side4 A63.out).mono ?_
   (case side1 => repeat (first | exact (Kd.Zs HO1125.out).2.2 | (with_reducible refine Kd.Zu ?_ _) | (with_reducible refine Kd.Zt ?_ _) | (with_reducible refine Kd.Yc ?_)))
   (case side2 => exact (Kd.Zs HO1125.out).2.1)
   (case side3 => repeat (first | exact (Kd.Zs HO1099.out).2.2 | (with_reducible refine Kd.Zu ?_ _) | (with_reducible refine Kd.Zt ?_ _) | (with_reducible refine Kd.Yc ?_)))
   (case side4 => exact (Kd.Zs HO1099.out).2.1)
   rintro e w83 ⟨v1128, v1131, rfl, ho0, ho1, hb⟩
   refine ⟨_, rfl, ?_⟩
   have n0_ := Yt.mk (Kd.Zv (Kd.Yl (Kd.Yl (Kd.R_old (by (with_reducible repeat (first | apply Kd.Zf | apply Kd.Ze | apply Kd.Zj)); exact HO1093.out) hb) (Kd.Zw ho0)) (Kd.Zw ho1)) (fun _ h_ => h_.1))
   have n1_ := Yt.mk (Kd.Zv (Kd.Yl (Kd.Yl (Kd.R_old (by (with_reducible repeat (first | apply Kd.Zf | apply Kd.Ze | apply Kd.Zj)); exact HO1096.out) hb) (Kd.Zw ho0)) (Kd.Zw ho1)) (fun _ h_ => h_.1))
   have n2_ := Yt.mk (Kd.Zv (Kd.Yl (Kd.Yl (Kd.R_old (by (with_reducible repeat (first | apply Kd.Zf | apply Kd.Ze | apply Kd.Zj)); exact HO1099.out) hb) (Kd.Zw ho0)) (Kd.Zw ho1)) (fun _ h_ => h_.1))
   have n3_ := Yt.mk (Kd.Zv (Kd.Yl (Kd.Yl (Kd.R_old (by (with_reducible repeat (first | apply Kd.Zf | apply Kd.Ze | apply Kd.Zj)); exact HO1125.out) hb) (Kd.Zw ho0)) (Kd.Zw ho1)) (fun _ h_ => h_.1))
   have n4_ := Yt.mk (Kd.Yb (Kd.Ya (Kd.Ya (Kd.Ya (Kd.Ya ho0 (Kd.R_lt (by (with_reducible repeat (first | apply Kd.Zf | apply Kd.Ze | apply Kd.Zj)); exact HO1093.out))) (Kd.R_lt (by (with_reducible repeat (first | apply Kd.Zf | apply Kd.Ze | apply Kd.Zj)); exact HO1096.out))) (Kd.R_lt (by (with_reducible repeat (first | apply Kd.Zf | apply Kd.Ze | apply Kd.Zj)); exact HO1099.out))) (Kd.R_lt (by (with_reducible repeat (first | apply Kd.Zf | apply Kd.Ze | apply Kd.Zj)); exact HO1125.out))) (Zk (by repeat (first | (with_reducible first | exact HB.out | apply Zb | apply Za | apply Zc | refine Zd ?_ GE1088.out | refine Zd ?_ GE1089.out | refine Zd ?_ GE1090.out) | exact HB.out))))
   have n5_ := Yt.mk (Kd.Yb (Kd.Ya (Kd.Ya (Kd.Ya (Kd.Ya ho1 (Kd.R_lt (by (with_reducible repeat (first | apply Kd.Zf | apply Kd.Ze | apply Kd.Zj)); exact HO1093.out))) (Kd.R_lt (by (with_reducible repeat (first | apply Kd.Zf | apply Kd.Ze | apply Kd.Zj)); exact HO1096.out))) (Kd.R_lt (by (with_reducible repeat (first | apply Kd.Zf | apply Kd.Ze | apply Kd.Zj)); exact HO1099.out))) (Kd.R_lt (by (with_reducible repeat (first | apply Kd.Zf | apply Kd.Ze | apply Kd.Zj)); exact HO1125.out))) (Zk (by repeat (first | (with_reducible first | exact HB.out | apply Zb | apply Za | apply Zc | refine Zd ?_ GE1088.out | refine Zd ?_ GE1089.out | refine Zd ?_ GE1090.out) | exact HB.out))))
   have n6_ := Yt.mk (Zq (g := gb1088) (o := .cells #[.bool a0_0, .slice A0_1 l0_1.length c0_1, .slice A0_2 l0_2.length c0_2] 50 (0, 0)) (by (with_reducible repeat (first | refine Zg ?_ _ | refine Zi ?_ | refine Zh ?_ _)); exact BK1088.out) hb)
   have n7_ := Yt.mk (Zq (g := gb1089) (o := .cells #[.bool a1_0, .slice A1_1 l1_1.length c1_1, .slice A1_2 l1_2.length c1_2] 50 (0, 0)) (by (with_reducible repeat (first | refine Zg ?_ _ | refine Zi ?_ | refine Zh ?_ _)); exact BK1089.out) hb)
   have n8_ := Yt.mk (Zq (g := gb1090) (o := .cells #[.bool false, .slice none 0 0, .slice none 0 0] 50 (0, 0)) (by (with_reducible repeat (first | refine Zg ?_ _ | refine Zi ?_ | refine Zh ?_ _)); exact BK1090.out) hb)
   have n9_ := Yt.mk (Zm (by repeat (first | (with_reducible first | exact HB.out | apply Zb | apply Za | apply Zc | refine Zd ?_ GE1088.out | refine Zd ?_ GE1089.out | refine Zd ?_ GE1090.out) | exact HB.out)) hb)
   clear HO1093
   clear HO1096
   clear HO1099
   clear HO1125
   clear BK1088
   clear BK1089
   clear BK1090
   clear HB
   have HO1093 := n0_
   have HO1096 := n1_
   have HO1099 := n2_
   have HO1125 := n3_
   have HO1129 := n4_
   have HO1132 := n5_
   have BK1088 := n6_
   have BK1089 := n7_
   have BK1090 := n8_
   have HB := n9_
   clear n0_ n1_ n2_ n3_ n4_ n5_ n6_ n7_ n8_ n9_
   (try clear hb)
   (try clear hb2)
   (try clear hk)
   (try clear hi)
   (try clear ho0)
   (try clear ho1)
   obtain ⟨Ao85, co85, eo85⟩ := Kd.Zx HO1129.out
   (first | subst eo85 | (injection eo85 with f1_ f2_ f3_; have f4_ := f1_.symm; have f5_ := f3_.symm; clear f1_ f2_ f3_; subst f4_; subst f5_))
   obtain ⟨Ao87, co87, eo87⟩ := Kd.Zx HO1132.out
   (first | subst eo87 | (injection eo87 with f1_ f2_ f3_; have f4_ := f1_.symm; have f5_ := f3_.symm; clear f1_ f2_ f3_; subst f4_; subst f5_))
   refine hK.out _ _ ⟨(Zl BK1088.out 0).trans rfl, (Zl BK1088.out 1).trans rfl, (Zl BK1088.out 2).trans rfl⟩ (fun hHeld => ?_)
   clear hK K
   refine norm_ (a' := ?_) ?_ ?_
   rotate_left
   ·show Act.put _ (some 57) _ = _
    simp only [Act.put, List.setIfInBounds_toArray, List.set_cons_zero, List.set_cons_succ, Yi, Yj]
    rfl
   refine pure_ (i := 7) (N := some 58) (v := ?_) (a' := ?_) #[true, true, true, true, true, true, true, true, false, false, false] rfl rfl (any_of HT_.out (by kernel_rfl)) (fun _ _ _ h => h) (Or.inl ⟨by rfl, ?_⟩) ?_ ?_
   rotate_left
   ·intro w'
    go_simp
    with_reducible rfl
   rotate_left
   ·simp only [Act.put, List.setIfInBounds_toArray, List.set_cons_zero, List.set_cons_succ, Yi, Yj]
    rfl
   refine pure_ (i := 8) (N := some 59) (v := ?_) (a' := ?_) #[true, true, true, true, true, true, true, true, true, false, false] rfl rfl (any_of HT_.out (by kernel_rfl)) (fun _ _ _ h => h) (Or.inl ⟨by rfl, ?_⟩) ?_ ?_
   rotate_left
   ·intro w'
    go_simp
    with_reducible rfl
   rotate_left
   ·simp only [Act.put, List.setIfInBounds_toArray, List.set_cons_zero, List.set_cons_succ, Yi, Yj]
    rfl
   refine one_ (i := 9) (N := none) #[true, true, true, true, true, true, true, true, true, true, false] rfl rfl (one_of HT_.out (by kernel_rfl)) (by decide) (fun K hK => ?_)
   have hs84 : w83.cell? ⟨gb1090, 0, none⟩ = some (.bool false) := (Zl BK1090.out 0).trans rfl
   have hfs84 := Zn BK1090.out 0
   have hns84_0 := NB1088_1090.out
   have hns84_1 := NB1089_1090.out
   have hms84_0 := NB1090_1088.out
   have hms84_1 := NB1090_1089.out
   have hs86 : w83.cell? ⟨gb1090, 1, none⟩ = some (.slice none 0 0) := (Zl BK1090.out 1).trans rfl
   have hfs86 := Zn BK1090.out 1
   have hns86_0 := NB1088_1090.out
   have hns86_1 := NB1089_1090.out
   have hms86_0 := NB1090_1088.out
   have hms86_1 := NB1090_1089.out
   have hs88 : w83.cell? ⟨gb1090, 2, none⟩ = some (.slice none 0 0) := (Zl BK1090.out 2).trans rfl
   have hfs88 := Zn BK1090.out 2
   have hns88_0 := NB1088_1090.out
   have hns88_1 := NB1089_1090.out
   have hms88_0 := NB1090_1088.out
   have hms88_1 := NB1090_1089.out
   refine skip_ (w1 := ?_) (by rfl) rfl ?_ ?_
   rotate_left
   ·go_simp
    rfl
   refine hK.out _ _ ⟨((cell_far (p := ⟨gb1090, _, none⟩) NB1088_1090.out _).trans (((cell_far (p := ⟨gb1090, _, none⟩) NB1088_1090.out _).trans (((cell_far (p := ⟨gb1090, _, none⟩) NB1088_1090.out _).trans (hHeld.1)))))), ((cell_far (p := ⟨gb1090, _, none⟩) NB1088_1090.out _).trans (((cell_far (p := ⟨gb1090, _, none⟩) NB1088_1090.out _).trans (((cell_far (p := ⟨gb1090, _, none⟩) NB1088_1090.out _).trans (hHeld.2.1)))))), ((cell_far (p := ⟨gb1090, _, none⟩) NB1088_1090.out _).trans (((cell_far (p := ⟨gb1090, _, none⟩) NB1088_1090.out _).trans (((cell_far (p := ⟨gb1090, _, none⟩) NB1088_1090.out _).trans (hHeld.2.2))))))⟩ (fun hHeld => ?_)
   clear hK K
   refine pure_ (i := 10) (N := some 5) (v := ?_) (a' := ?_) #[true, true, true, true, true, true, true, true, true, true, true] rfl rfl (any_of HT_.out (by kernel_rfl)) (fun _ _ _ h => h) (Or.inl ⟨by rfl, ?_⟩) ?_ ?_
   rotate_left
   ·intro w'
    go_simp
    with_reducible rfl
   rotate_left
   ·simp only [Act.put, List.setIfInBounds_toArray, List.set_cons_zero, List.set_cons_succ, Yi, Yj]
    rfl
   refine done_ (done_of HT_.out (by kernel_rfl)) ?_
   try go_wp2
   refine bodyPost_ret (results_ct rfl _ _ gb1090 50 #[.bool t1126, .slice Ao85 t1127.length co85, .slice Ao87 t1130.length co87] (0, 0) _ rfl (by (with_reducible repeat (first | refine Zg ?_ _ | refine Zi ?_ | refine Zh ?_ _)); refine Ym (cs := #[.bool t1126, .slice Ao85 t1127.length co85, .slice none 0 0]) ?_ 2 _ rfl; (with_reducible repeat (first | refine Zg ?_ _ | refine Zi ?_ | refine Zh ?_ _)); refine Ym (cs := #[.bool t1126, .slice none 0 0, .slice none 0 0]) ?_ 1 _ rfl; (with_reducible repeat (first | refine Zg ?_ _ | refine Zi ?_ | refine Zh ?_ _)); refine Ym (cs := #[.bool false, .slice none 0 0, .slice none 0 0]) ?_ 0 _ rfl; (with_reducible repeat (first | refine Zg ?_ _ | refine Zi ?_ | refine Zh ?_ _)); exact BK1090.out) Try.underlying50 rfl (by kernel_rfl)) rfl ?_
   exact ⟨_, _, by first | rfl | (simp [Zp, Zo] <;> rfl) | (simp [*, Zp, Zo] <;> rfl), by (with_reducible repeat (first | apply Kd.Zf | apply Kd.Ze | apply Kd.Zj)); exact Kd.Zv (Kd.Yh (p := ⟨gb1090, 2, none⟩) (Kd.Yh (p := ⟨gb1090, 1, none⟩) (Kd.Yh (p := ⟨gb1090, 0, none⟩) (Kd.Yq HO1129.out BK1090.out (by decide)) (fun _ hk => hk.2) (.bool t1126)) (fun _ hk => hk.2) (.slice Ao85 t1127.length co85)) (fun _ hk => hk.2) (.slice Ao87 t1130.length co87)) (fun _ hk => hk.1.1.1.1.1), by (with_reducible repeat (first | apply Kd.Zf | apply Kd.Ze | apply Kd.Zj)); exact Kd.Zv (Kd.Yh (p := ⟨gb1090, 2, none⟩) (Kd.Yh (p := ⟨gb1090, 1, none⟩) (Kd.Yh (p := ⟨gb1090, 0, none⟩) (Kd.Yq HO1132.out BK1090.out (by decide)) (fun _ hk => hk.2) (.bool t1126)) (fun _ hk => hk.2) (.slice Ao85 t1127.length co85)) (fun _ hk => hk.2) (.slice Ao87 t1130.length co87)) (fun _ hk => hk.1.1.1.1.1), by repeat (first | (with_reducible first | exact HB.out | apply Zb | apply Za | apply Zc | refine Zd ?_ GE1088.out | refine Zd ?_ GE1089.out | refine Zd ?_ GE1090.out) | exact HB.out)⟩
def ratio_Add.f (k : Nat) (a0_0 : Bool) (l0_1 : List Int) (l0_2 : List Int) (a1_0 : Bool) (l1_1 : List Int) (l1_2 : List Int) : Option (Bool × List Int × List Int × Int) := (ratio_forms.f k (([(⟨a0_0, l0_1, l0_2⟩ : S50), (⟨a1_0, l1_1, l1_2⟩ : S50)] : List (S50)))).bind fun t1140 => (if t1140 = true then ((ratio_add.f k a0_0 l0_1 l0_2 a1_0 l1_1 l1_2).bind fun bt1141 => (some (bt1141.1, bt1141.2.1, bt1141.2.2.1, bt1141.2.2.2))) else (some (false, ([] : List Int), ([] : List Int), 20)))
theorem ratio_Add.mono : ∀ a0 a1 a2 a3 a4 a5 k, LeO (ratio_Add.f k a0 a1 a2 a3 a4 a5) (ratio_Add.f (k + 1) a0 a1 a2 a3 a4 a5) := by
 intro a0 a1 a2 a3 a4 a5 k
 unfold ratio_Add.f
 repeat' first
   | (with_reducible exact ratio_add.mono _ _ _ _ _ _ _)
   | (with_reducible exact ratio_forms.mono _ _)
   | (with_reducible exact LeO.refl _)
   | (with_reducible exact LeO.none _)
   | (with_reducible refine LeO.ite ?_ ?_)
   | (with_reducible refine LeO.bind ?_ (fun _ => ?_))
   | exact ratio_add.mono _ _ _ _ _ _ _
   | exact ratio_forms.mono _ _
   | exact LeO.none _
   | refine LeO.ite ?_ ?_
   | refine LeO.bind ?_ (fun _ => ?_)
set_option maxHeartbeats 8000000 in
set_option maxRecDepth 100000 in
theorem ratio_Add.calls (k : Nat) (a0_0 : Bool) (P0_1_ : Nat → Prop) (A0_1 : Option Addr) (c0_1 : Nat) (l0_1 : List Int) (P0_2_ : Nat → Prop) (A0_2 : Option Addr) (c0_2 : Nat) (l0_2 : List Int) (a1_0 : Bool) (P1_1_ : Nat → Prop) (A1_1 : Option Addr) (c1_1 : Nat) (l1_1 : List Int) (P1_2_ : Nat → Prop) (A1_2 : Option Addr) (c1_2 : Nat) (l1_2 : List Int) (r1 : Bool) (r2 : List Int) (r3 : List Int) (r4 : Int) (w : World) (hs0_1 : Kd.V (Kd.int .u32) 47 w w.heap.size (fun k_ => P0_1_ k_) (.slice A0_1 l0_1.length c0_1) l0_1) (hs0_2 : Kd.V (Kd.int .u32) 47 w w.heap.size (fun k_ => P0_2_ k_) (.slice A0_2 l0_2.length c0_2) l0_2) (hs1_1 : Kd.V (Kd.int .u32) 47 w w.heap.size (fun k_ => P1_1_ k_) (.slice A1_1 l1_1.length c1_1) l1_1) (hs1_2 : Kd.V (Kd.int .u32) 47 w w.heap.size (fun k_ => P1_2_ k_) (.slice A1_2 l1_2.length c1_2) l1_2) (h : ratio_Add.f k a0_0 l0_1 l0_2 a1_0 l1_1 l1_2 = some (r1, r2, r3, r4)) :
  Calls Try.prog 70 #[.agg #[.bool a0_0, .slice A0_1 l0_1.length c0_1, .slice A0_2 l0_2.length c0_2], .agg #[.bool a1_0, .slice A1_1 l1_1.length c1_1, .slice A1_2 l1_2.length c1_2]] w fun e w' => ∃ v1_ v2_ : Value, e = .returned (.tuple #[.agg #[.bool r1, v1_, v2_], .int .i64 r4]) ∧ Kd.R (Kd.int .u32) 47 w' w.heap.size (fun k_ => (w.heap.size ≤ k_) ∧ some k_ ≠ (v2_ : Value).ownBlock) v1_ r2 ∧ Kd.R (Kd.int .u32) 47 w' w.heap.size (fun k_ => (w.heap.size ≤ k_) ∧ some k_ ≠ (v1_ : Value).ownBlock) v2_ r3 ∧ Below w.heap.size w w' := by
 have hu50 := Try.underlying50
 have HO0_1 := Yt.mk (show Kd.V (Kd.int .u32) 47 w w.heap.size (fun k_ => ((P0_1_ k_ ∨ P0_2_ k_ ∨ P1_1_ k_ ∨ P1_2_ k_) ∨ w.heap.size ≤ k_)) (.slice A0_1 l0_1.length c0_1) l0_1 from Kd.Yp hs0_1 (fun k_ hk => .inl (.inl hk)))
 have HO0_2 := Yt.mk (show Kd.V (Kd.int .u32) 47 w w.heap.size (fun k_ => ((P0_1_ k_ ∨ P0_2_ k_ ∨ P1_1_ k_ ∨ P1_2_ k_) ∨ w.heap.size ≤ k_)) (.slice A0_2 l0_2.length c0_2) l0_2 from Kd.Yp hs0_2 (fun k_ hk => .inl (.inr (.inl hk))))
 have HO1_1 := Yt.mk (show Kd.V (Kd.int .u32) 47 w w.heap.size (fun k_ => ((P0_1_ k_ ∨ P0_2_ k_ ∨ P1_1_ k_ ∨ P1_2_ k_) ∨ w.heap.size ≤ k_)) (.slice A1_1 l1_1.length c1_1) l1_1 from Kd.Yp hs1_1 (fun k_ hk => .inl (.inr (.inr (.inl hk)))))
 have HO1_2 := Yt.mk (show Kd.V (Kd.int .u32) 47 w w.heap.size (fun k_ => ((P0_1_ k_ ∨ P0_2_ k_ ∨ P1_1_ k_ ∨ P1_2_ k_) ∨ w.heap.size ≤ k_)) (.slice A1_2 l1_2.length c1_2) l1_2 from Kd.Yp hs1_2 (fun k_ hk => .inl (.inr (.inr (.inr hk)))))
 have HB := Yt.mk (Below.refl w.heap.size w)
 have H : ((ratio_forms.f k (([(⟨a0_0, l0_1, l0_2⟩ : S50), (⟨a1_0, l1_1, l1_2⟩ : S50)] : List (S50)))).bind fun t1140 => (if t1140 = true then ((ratio_add.f k a0_0 l0_1 l0_2 a1_0 l1_1 l1_2).bind fun bt1141 => (some (bt1141.1, bt1141.2.1, bt1141.2.2.1, bt1141.2.2.2))) else (some (false, ([] : List Int), ([] : List Int), 20)))) = some (r1, r2, r3, r4) := h
 clear h
 obtain ⟨y1137, hy1137⟩ : ∃ y_ : List (S50), y_ = (([(⟨a0_0, l0_1, l0_2⟩ : S50), (⟨a1_0, l1_1, l1_2⟩ : S50)] : List (S50))) := ⟨_, rfl⟩
 replace H : ((ratio_forms.f k y1137).bind fun t1140 => (if t1140 = true then ((ratio_add.f k a0_0 l0_1 l0_2 a1_0 l1_1 l1_2).bind fun bt1141 => (some (bt1141.1, bt1141.2.1, bt1141.2.2.1, bt1141.2.2.2))) else (some (false, ([] : List Int), ([] : List Int), 20)))) = some (r1, r2, r3, r4) := by first | (rw [hy1137]; with_reducible exact H) | (have H2_ := (Option.bind_some _ _).symm.trans H; rw [hy1137]; with_reducible exact H2_) | (have H2_ := (Option.bind_some _ _).symm.trans H; with_reducible exact H2_) | with_reducible exact H | (rw [hy1137]; exact H) | exact H
 have Ny1137 := Yt.mk hy1137
 clear hy1137
 replace H := Option.bind_eq_some_iff.mp H
 obtain ⟨t1140, A30, H⟩ := H
 try dsimp only at H
 have A3 := Yt.mk A30
 clear A30
 by_cases c4 : t1140 = true
 ·subst c4
  have H1 : ((ratio_add.f k a0_0 l0_1 l0_2 a1_0 l1_1 l1_2).bind fun bt1141 => (some (bt1141.1, bt1141.2.1, bt1141.2.2.1, bt1141.2.2.2))) = some (r1, r2, r3, r4) := by rw [if_pos rfl] at H; exact H
  clear H
  have H := H1
  clear H1
  replace H := Option.bind_eq_some_iff.mp H
  obtain ⟨⟨t1141, t1142, t1145, t1148⟩, A50, H⟩ := H
  replace H : (some (t1141, t1142, t1145, t1148)) = some (r1, r2, r3, r4) := H
  have A5 := Yt.mk A50
  clear A50
  simp only [Option.some.injEq, Prod.mk.injEq] at H
  obtain ⟨rfl, rfl, rfl, rfl⟩ := H
  go_enter Try.func70, Try.ntmps70
  go_wp2_with (first | ((with_reducible refine Yk (N := 2) rfl ?_); refine Yo ?hg (N := 2) ?hd (cs := #[.bool a0_0, .slice A0_1 l0_1.length c0_1, .slice A0_2 l0_2.length c0_2]) (t := 50) ?hr ?_; (case hd => rfl); (case hg => rfl); (case hr => first | (go_simp; done) | (go_simp; rfl)); intro gb1134 hg w6 hbox hb; have n0_ := Yt.mk (Kd.Yr (Kd.V_elderB (by (with_reducible repeat (first | apply Kd.Zz | apply Kd.Zy | apply Kd.Ye)); exact HO0_1.out) gb1134 (Nat.le_of_eq hg.symm)) hb); have n1_ := Yt.mk (Kd.Yr (Kd.V_elderB (by (with_reducible repeat (first | apply Kd.Zz | apply Kd.Zy | apply Kd.Ye)); exact HO0_2.out) gb1134 (Nat.le_of_eq hg.symm)) hb); have n2_ := Yt.mk (Kd.Yr (Kd.V_elderB (by (with_reducible repeat (first | apply Kd.Zz | apply Kd.Zy | apply Kd.Ye)); exact HO1_1.out) gb1134 (Nat.le_of_eq hg.symm)) hb); have n3_ := Yt.mk (Kd.Yr (Kd.V_elderB (by (with_reducible repeat (first | apply Kd.Zz | apply Kd.Zy | apply Kd.Ye)); exact HO1_2.out) gb1134 (Nat.le_of_eq hg.symm)) hb); have n4_ := Yt.mk (Zm (by repeat (first | (with_reducible first | exact HB.out | apply Zb | apply Za | apply Zc) | exact HB.out)) hb); have n5_ := Yt.mk (hbox); have n6_ := Yt.mk ((by rw [hg]; exact (Zk (by repeat (first | (with_reducible first | exact HB.out | apply Zb | apply Za | apply Zc) | exact HB.out))) : w.heap.size ≤ gb1134)); have n7_ := Yt.mk ((by rw [hg]; exact (Zk (by repeat (first | (with_reducible first | exact HB.out | apply Zb | apply Za | apply Zc) | exact HB.out))) : w.heap.size ≤ gb1134)); clear HO0_1; clear HO0_2; clear HO1_1; clear HO1_2; clear HB; have HO0_1 := n0_; have HO0_2 := n1_; have HO1_1 := n2_; have HO1_2 := n3_; have HB := n4_; have BK1134 := n5_; have GW1134 := n6_; have GE1134 := n7_; clear n0_ n1_ n2_ n3_ n4_ n5_ n6_ n7_; clear hb hbox hg) | ((with_reducible refine Yk (N := 3) rfl ?_); refine Yo ?hg (N := 3) ?hd (cs := #[.bool a1_0, .slice A1_1 l1_1.length c1_1, .slice A1_2 l1_2.length c1_2]) (t := 50) ?hr ?_; (case hd => rfl); (case hg => rfl); (case hr => first | (go_simp; done) | (go_simp; rfl)); intro gb1135 hg w7 hbox hb; have n0_ := Yt.mk (Kd.Yr (Kd.V_elderB (by (with_reducible repeat (first | apply Kd.Zz | apply Kd.Zy | apply Kd.Ye)); exact HO0_1.out) gb1135 (Nat.le_of_eq hg.symm)) hb); have n1_ := Yt.mk (Kd.Yr (Kd.V_elderB (by (with_reducible repeat (first | apply Kd.Zz | apply Kd.Zy | apply Kd.Ye)); exact HO0_2.out) gb1135 (Nat.le_of_eq hg.symm)) hb); have n2_ := Yt.mk (Kd.Yr (Kd.V_elderB (by (with_reducible repeat (first | apply Kd.Zz | apply Kd.Zy | apply Kd.Ye)); exact HO1_1.out) gb1135 (Nat.le_of_eq hg.symm)) hb); have n3_ := Yt.mk (Kd.Yr (Kd.V_elderB (by (with_reducible repeat (first | apply Kd.Zz | apply Kd.Zy | apply Kd.Ye)); exact HO1_2.out) gb1135 (Nat.le_of_eq hg.symm)) hb); have n4_ := Yt.mk (Zq (g := gb1134) (o := .cells #[.bool a0_0, .slice A0_1 l0_1.length c0_1, .slice A0_2 l0_2.length c0_2] 50 (0, 0)) (by (with_reducible repeat (first | refine Zg ?_ _ | refine Zi ?_ | refine Zh ?_ _)); exact BK1134.out) hb); have n5_ := Yt.mk (Zm (by repeat (first | (with_reducible first | exact HB.out | apply Zb | apply Za | apply Zc | refine Zd ?_ GE1134.out) | exact HB.out)) hb); have n6_ := Yt.mk (hbox); have n7_ := Yt.mk ((by rw [hg]; exact (Zk (by repeat (first | (with_reducible first | exact HB.out | apply Zb | apply Za | apply Zc | refine Zd ?_ GE1134.out) | exact HB.out))) : w.heap.size ≤ gb1135)); have n8_ := Yt.mk ((by rw [hg]; exact (Zk (by repeat (first | (with_reducible first | exact HB.out | apply Zb | apply Za | apply Zc | refine Zd ?_ GE1134.out) | exact HB.out))) : w.heap.size ≤ gb1135)); have n9_ := Yt.mk ((by rw [hg]; exact Nat.ne_of_lt (blk_lt (g := gb1134) (o := .cells #[.bool a0_0, .slice A0_1 l0_1.length c0_1, .slice A0_2 l0_2.length c0_2] 50 (0, 0)) (by (with_reducible repeat (first | refine Zg ?_ _ | refine Zi ?_ | refine Zh ?_ _)); exact BK1134.out)) : gb1134 ≠ gb1135)); have n10_ := Yt.mk ((by rw [hg]; exact Nat.ne_of_gt (blk_lt (g := gb1134) (o := .cells #[.bool a0_0, .slice A0_1 l0_1.length c0_1, .slice A0_2 l0_2.length c0_2] 50 (0, 0)) (by (with_reducible repeat (first | refine Zg ?_ _ | refine Zi ?_ | refine Zh ?_ _)); exact BK1134.out)) : gb1135 ≠ gb1134)); clear HO0_1; clear HO0_2; clear HO1_1; clear HO1_2; clear BK1134; clear HB; have HO0_1 := n0_; have HO0_2 := n1_; have HO1_1 := n2_; have HO1_2 := n3_; have BK1134 := n4_; have HB := n5_; have BK1135 := n6_; have GW1135 := n7_; have GE1135 := n8_; have NB1134_1135 := n9_; have NB1135_1134 := n10_; clear n0_ n1_ n2_ n3_ n4_ n5_ n6_ n7_ n8_ n9_ n10_; clear hb hbox hg) | ((with_reducible refine Yk (N := 4) rfl ?_); refine Yo ?hg (N := 4) ?hd (cs := #[.bool false, .slice none 0 0, .slice none 0 0]) (t := 50) ?hr ?_; (case hd => rfl); (case hg => rfl); (case hr => first | (go_simp; done) | (go_simp; rfl)); intro gb1136 hg w8 hbox hb; have n0_ := Yt.mk (Kd.Yr (Kd.V_elderB (by (with_reducible repeat (first | apply Kd.Zz | apply Kd.Zy | apply Kd.Ye)); exact HO0_1.out) gb1136 (Nat.le_of_eq hg.symm)) hb); have n1_ := Yt.mk (Kd.Yr (Kd.V_elderB (by (with_reducible repeat (first | apply Kd.Zz | apply Kd.Zy | apply Kd.Ye)); exact HO0_2.out) gb1136 (Nat.le_of_eq hg.symm)) hb); have n2_ := Yt.mk (Kd.Yr (Kd.V_elderB (by (with_reducible repeat (first | apply Kd.Zz | apply Kd.Zy | apply Kd.Ye)); exact HO1_1.out) gb1136 (Nat.le_of_eq hg.symm)) hb); have n3_ := Yt.mk (Kd.Yr (Kd.V_elderB (by (with_reducible repeat (first | apply Kd.Zz | apply Kd.Zy | apply Kd.Ye)); exact HO1_2.out) gb1136 (Nat.le_of_eq hg.symm)) hb); have n4_ := Yt.mk (Zq (g := gb1134) (o := .cells #[.bool a0_0, .slice A0_1 l0_1.length c0_1, .slice A0_2 l0_2.length c0_2] 50 (0, 0)) (by (with_reducible repeat (first | refine Zg ?_ _ | refine Zi ?_ | refine Zh ?_ _)); exact BK1134.out) hb); have n5_ := Yt.mk (Zq (g := gb1135) (o := .cells #[.bool a1_0, .slice A1_1 l1_1.length c1_1, .slice A1_2 l1_2.length c1_2] 50 (0, 0)) (by (with_reducible repeat (first | refine Zg ?_ _ | refine Zi ?_ | refine Zh ?_ _)); exact BK1135.out) hb); have n6_ := Yt.mk (Zm (by repeat (first | (with_reducible first | exact HB.out | apply Zb | apply Za | apply Zc | refine Zd ?_ GE1134.out | refine Zd ?_ GE1135.out) | exact HB.out)) hb); have n7_ := Yt.mk (hbox); have n8_ := Yt.mk ((by rw [hg]; exact (Zk (by repeat (first | (with_reducible first | exact HB.out | apply Zb | apply Za | apply Zc | refine Zd ?_ GE1134.out | refine Zd ?_ GE1135.out) | exact HB.out))) : w.heap.size ≤ gb1136)); have n9_ := Yt.mk ((by rw [hg]; exact (Zk (by repeat (first | (with_reducible first | exact HB.out | apply Zb | apply Za | apply Zc | refine Zd ?_ GE1134.out | refine Zd ?_ GE1135.out) | exact HB.out))) : w.heap.size ≤ gb1136)); have n10_ := Yt.mk ((by rw [hg]; exact Nat.ne_of_lt (blk_lt (g := gb1134) (o := .cells #[.bool a0_0, .slice A0_1 l0_1.length c0_1, .slice A0_2 l0_2.length c0_2] 50 (0, 0)) (by (with_reducible repeat (first | refine Zg ?_ _ | refine Zi ?_ | refine Zh ?_ _)); exact BK1134.out)) : gb1134 ≠ gb1136)); have n11_ := Yt.mk ((by rw [hg]; exact Nat.ne_of_gt (blk_lt (g := gb1134) (o := .cells #[.bool a0_0, .slice A0_1 l0_1.length c0_1, .slice A0_2 l0_2.length c0_2] 50 (0, 0)) (by (with_reducible repeat (first | refine Zg ?_ _ | refine Zi ?_ | refine Zh ?_ _)); exact BK1134.out)) : gb1136 ≠ gb1134)); have n12_ := Yt.mk ((by rw [hg]; exact Nat.ne_of_lt (blk_lt (g := gb1135) (o := .cells #[.bool a1_0, .slice A1_1 l1_1.length c1_1, .slice A1_2 l1_2.length c1_2] 50 (0, 0)) (by (with_reducible repeat (first | refine Zg ?_ _ | refine Zi ?_ | refine Zh ?_ _)); exact BK1135.out)) : gb1135 ≠ gb1136)); have n13_ := Yt.mk ((by rw [hg]; exact Nat.ne_of_gt (blk_lt (g := gb1135) (o := .cells #[.bool a1_0, .slice A1_1 l1_1.length c1_1, .slice A1_2 l1_2.length c1_2] 50 (0, 0)) (by (with_reducible repeat (first | refine Zg ?_ _ | refine Zi ?_ | refine Zh ?_ _)); exact BK1135.out)) : gb1136 ≠ gb1135)); clear HO0_1; clear HO0_2; clear HO1_1; clear HO1_2; clear BK1134; clear BK1135; clear HB; have HO0_1 := n0_; have HO0_2 := n1_; have HO1_1 := n2_; have HO1_2 := n3_; have BK1134 := n4_; have BK1135 := n5_; have HB := n6_; have BK1136 := n7_; have GW1136 := n8_; have GE1136 := n9_; have NB1134_1136 := n10_; have NB1136_1134 := n11_; have NB1135_1136 := n12_; have NB1136_1135 := n13_; clear n0_ n1_ n2_ n3_ n4_ n5_ n6_ n7_ n8_ n9_ n10_ n11_ n12_ n13_; clear hb hbox hg; have hnb9 := NB1134_1135.out; have hnc9 := NB1135_1134.out; have hnb10 := NB1134_1136.out; have hnc10 := NB1136_1134.out; have hcz11_0 : w8.cell? ⟨gb1134, 0, none⟩ = some (.bool a0_0) := (Zl BK1134.out 0).trans rfl; have hcz11_1 : w8.cell? ⟨gb1134, 1, none⟩ = some (.slice A0_1 l0_1.length c0_1) := (Zl BK1134.out 1).trans rfl; have hcz11_2 : w8.cell? ⟨gb1134, 2, none⟩ = some (.slice A0_2 l0_2.length c0_2) := (Zl BK1134.out 2).trans rfl; have hfz11_0 := Zn BK1134.out 0; have hfz11_1 := Zn BK1134.out 1; have hfz11_2 := Zn BK1134.out 2; have hnb12 := NB1135_1136.out; have hnc12 := NB1136_1135.out; have hcz13_0 : w8.cell? ⟨gb1135, 0, none⟩ = some (.bool a1_0) := (Zl BK1135.out 0).trans rfl; have hcz13_1 : w8.cell? ⟨gb1135, 1, none⟩ = some (.slice A1_1 l1_1.length c1_1) := (Zl BK1135.out 1).trans rfl; have hcz13_2 : w8.cell? ⟨gb1135, 2, none⟩ = some (.slice A1_2 l1_2.length c1_2) := (Zl BK1135.out 2).trans rfl; have hfz13_0 := Zn BK1135.out 0; have hfz13_1 := Zn BK1135.out 1; have hfz13_2 := Zn BK1135.out 2) | ((with_reducible refine Yk (N := 8) rfl ?_); refine Kd.N_lit k50 _ 50 ?hg (N' := 8) ?hd (xs := ([(⟨a0_0, l0_1, l0_2⟩ : S50), (⟨a1_0, l1_1, l1_2⟩ : S50)] : List (S50))) (inner := [.bool a0_0, .slice A0_1 l0_1.length c0_1, .slice A0_2 l0_2.length c0_2, .bool a1_0, .slice A1_1 l1_1.length c1_1, .slice A1_2 l1_2.length c1_2]) (ok := (fun k_ => ((P0_1_ k_ ∨ P0_2_ k_ ∨ P1_1_ k_ ∨ P1_2_ k_) ∨ w.heap.size ≤ k_) ∧ k_ ≠ gb1134 ∧ k_ ≠ gb1135 ∧ k_ ≠ gb1136)) (okp := (fun k_ => ((P0_1_ k_ ∨ P0_2_ k_ ∨ P1_1_ k_ ∨ P1_2_ k_) ∨ w.heap.size ≤ k_) ∧ k_ ≠ gb1134 ∧ k_ ≠ gb1135 ∧ k_ ≠ gb1136)) ?hr ?hp (fun _ hk => hk) ((show ∀ k_, w8.heap.size ≤ k_ → (fun k_ => ((P0_1_ k_ ∨ P0_2_ k_ ∨ P1_1_ k_ ∨ P1_2_ k_) ∨ w.heap.size ≤ k_) ∧ k_ ≠ gb1134 ∧ k_ ≠ gb1135 ∧ k_ ≠ gb1136) k_ from fun k_ hk => ⟨(.inr (Nat.le_trans (Zk (by repeat (first | (with_reducible first | exact HB.out | apply Zb | apply Za | apply Zc | refine Zd ?_ GE1134.out | refine Zd ?_ GE1135.out | refine Zd ?_ GE1136.out) | exact HB.out))) hk)), Kd.freshB (g := gb1134) (o := .cells #[.bool a0_0, .slice A0_1 l0_1.length c0_1, .slice A0_2 l0_2.length c0_2] 50 (0, 0)) (by (with_reducible repeat (first | refine Zg ?_ _ | refine Zi ?_ | refine Zh ?_ _)); exact BK1134.out) k_ hk, Kd.freshB (g := gb1135) (o := .cells #[.bool a1_0, .slice A1_1 l1_1.length c1_1, .slice A1_2 l1_2.length c1_2] 50 (0, 0)) (by (with_reducible repeat (first | refine Zg ?_ _ | refine Zi ?_ | refine Zh ?_ _)); exact BK1135.out) k_ hk, Kd.freshB (g := gb1136) (o := .cells #[.bool false, .slice none 0 0, .slice none 0 0] 50 (0, 0)) (by (with_reducible repeat (first | refine Zg ?_ _ | refine Zi ?_ | refine Zh ?_ _)); exact BK1136.out) k_ hk⟩) _ (Nat.le_refl _)) (Below.refl _ _) (Nat.le_refl _) (by simp) ?_; (case hd => rfl); (case hg => rfl); (case hr => first | (go_simp; done) | (go_simp; rfl)); (case hp => exact (Reps.c3 (show Kd.FK k50 _ _ (⟨a0_0, l0_1, l0_2⟩ : S50) [.bool a0_0, .slice A0_1 l0_1.length c0_1, .slice A0_2 l0_2.length c0_2] from (k50_mkF _ _ (⟨a0_0, l0_1, l0_2⟩ : S50) (Kd.Yn (Kd.Yp (ok' := (fun k_ => ((P0_1_ k_ ∨ P0_2_ k_ ∨ P1_1_ k_ ∨ P1_2_ k_) ∨ w.heap.size ≤ k_) ∧ k_ ≠ gb1134 ∧ k_ ≠ gb1135 ∧ k_ ≠ gb1136)) (HO0_1.out) (fun k_ hk => ⟨hk.1.1.1, ⟨hk.1.1.2, ⟨hk.1.2, hk.2⟩⟩⟩))).2.1 (Kd.V_F (Kd.Yp (ok' := (fun k_ => ((P0_1_ k_ ∨ P0_2_ k_ ∨ P1_1_ k_ ∨ P1_2_ k_) ∨ w.heap.size ≤ k_) ∧ k_ ≠ gb1134 ∧ k_ ≠ gb1135 ∧ k_ ≠ gb1136)) (HO0_1.out) (fun k_ hk => ⟨hk.1.1.1, ⟨hk.1.1.2, ⟨hk.1.2, hk.2⟩⟩⟩))) (Kd.Yn (Kd.Yp (ok' := (fun k_ => ((P0_1_ k_ ∨ P0_2_ k_ ∨ P1_1_ k_ ∨ P1_2_ k_) ∨ w.heap.size ≤ k_) ∧ k_ ≠ gb1134 ∧ k_ ≠ gb1135 ∧ k_ ≠ gb1136)) (HO0_2.out) (fun k_ hk => ⟨hk.1.1.1, ⟨hk.1.1.2, ⟨hk.1.2, hk.2⟩⟩⟩))).2.1 (Kd.V_F (Kd.Yp (ok' := (fun k_ => ((P0_1_ k_ ∨ P0_2_ k_ ∨ P1_1_ k_ ∨ P1_2_ k_) ∨ w.heap.size ≤ k_) ∧ k_ ≠ gb1134 ∧ k_ ≠ gb1135 ∧ k_ ≠ gb1136)) (HO0_2.out) (fun k_ hk => ⟨hk.1.1.1, ⟨hk.1.1.2, ⟨hk.1.2, hk.2⟩⟩⟩))))) (Reps.c3 (show Kd.FK k50 _ _ (⟨a1_0, l1_1, l1_2⟩ : S50) [.bool a1_0, .slice A1_1 l1_1.length c1_1, .slice A1_2 l1_2.length c1_2] from (k50_mkF _ _ (⟨a1_0, l1_1, l1_2⟩ : S50) (Kd.Yn (Kd.Yp (ok' := (fun k_ => ((P0_1_ k_ ∨ P0_2_ k_ ∨ P1_1_ k_ ∨ P1_2_ k_) ∨ w.heap.size ≤ k_) ∧ k_ ≠ gb1134 ∧ k_ ≠ gb1135 ∧ k_ ≠ gb1136)) (HO1_1.out) (fun k_ hk => ⟨hk.1.1.1, ⟨hk.1.1.2, ⟨hk.1.2, hk.2⟩⟩⟩))).2.1 (Kd.V_F (Kd.Yp (ok' := (fun k_ => ((P0_1_ k_ ∨ P0_2_ k_ ∨ P1_1_ k_ ∨ P1_2_ k_) ∨ w.heap.size ≤ k_) ∧ k_ ≠ gb1134 ∧ k_ ≠ gb1135 ∧ k_ ≠ gb1136)) (HO1_1.out) (fun k_ hk => ⟨hk.1.1.1, ⟨hk.1.1.2, ⟨hk.1.2, hk.2⟩⟩⟩))) (Kd.Yn (Kd.Yp (ok' := (fun k_ => ((P0_1_ k_ ∨ P0_2_ k_ ∨ P1_1_ k_ ∨ P1_2_ k_) ∨ w.heap.size ≤ k_) ∧ k_ ≠ gb1134 ∧ k_ ≠ gb1135 ∧ k_ ≠ gb1136)) (HO1_2.out) (fun k_ hk => ⟨hk.1.1.1, ⟨hk.1.1.2, ⟨hk.1.2, hk.2⟩⟩⟩))).2.1 (Kd.V_F (Kd.Yp (ok' := (fun k_ => ((P0_1_ k_ ∨ P0_2_ k_ ∨ P1_1_ k_ ∨ P1_2_ k_) ∨ w.heap.size ≤ k_) ∧ k_ ≠ gb1134 ∧ k_ ≠ gb1135 ∧ k_ ≠ gb1136)) (HO1_2.out) (fun k_ hk => ⟨hk.1.1.1, ⟨hk.1.1.2, ⟨hk.1.2, hk.2⟩⟩⟩))))) (Reps.none _ _)))); intro v1138 w14 ho15 hb hg_ hnew_; clear hg_ hnew_; (first | rw [← Ny1137.out] at ho15 | (simp only [Int.reduceToNat] at ho15; rw [← Ny1137.out] at ho15)); have n0_ := Yt.mk (Kd.V_elder' (by (with_reducible repeat (first | apply Kd.Zz | apply Kd.Zy | apply Kd.Ye)); exact HO0_1.out) (Kd.N_base ho15) hb); have n1_ := Yt.mk (Kd.V_elder' (by (with_reducible repeat (first | apply Kd.Zz | apply Kd.Zy | apply Kd.Ye)); exact HO0_2.out) (Kd.N_base ho15) hb); have n2_ := Yt.mk (Kd.V_elder' (by (with_reducible repeat (first | apply Kd.Zz | apply Kd.Zy | apply Kd.Ye)); exact HO1_1.out) (Kd.N_base ho15) hb); have n3_ := Yt.mk (Kd.V_elder' (by (with_reducible repeat (first | apply Kd.Zz | apply Kd.Zy | apply Kd.Ye)); exact HO1_2.out) (Kd.N_base ho15) hb); have n4_ := Yt.mk (Kd.N_lower ho15 (Zk (by repeat (first | (with_reducible first | exact HB.out | apply Zb | apply Za | apply Zc | refine Zd ?_ GE1134.out | refine Zd ?_ GE1135.out | refine Zd ?_ GE1136.out) | exact HB.out)))); have n5_ := Yt.mk (Zq (g := gb1134) (o := .cells #[.bool a0_0, .slice A0_1 l0_1.length c0_1, .slice A0_2 l0_2.length c0_2] 50 (0, 0)) (by (with_reducible repeat (first | refine Zg ?_ _ | refine Zi ?_ | refine Zh ?_ _)); exact BK1134.out) hb); have n6_ := Yt.mk (Zq (g := gb1135) (o := .cells #[.bool a1_0, .slice A1_1 l1_1.length c1_1, .slice A1_2 l1_2.length c1_2] 50 (0, 0)) (by (with_reducible repeat (first | refine Zg ?_ _ | refine Zi ?_ | refine Zh ?_ _)); exact BK1135.out) hb); have n7_ := Yt.mk (Zq (g := gb1136) (o := .cells #[.bool false, .slice none 0 0, .slice none 0 0] 50 (0, 0)) (by (with_reducible repeat (first | refine Zg ?_ _ | refine Zi ?_ | refine Zh ?_ _)); exact BK1136.out) hb); have n8_ := Yt.mk (Zm (by repeat (first | (with_reducible first | exact HB.out | apply Zb | apply Za | apply Zc | refine Zd ?_ GE1134.out | refine Zd ?_ GE1135.out | refine Zd ?_ GE1136.out) | exact HB.out)) hb); clear HO0_1; clear HO0_2; clear HO1_1; clear HO1_2; clear BK1134; clear BK1135; clear BK1136; clear HB; have HO0_1 := n0_; have HO0_2 := n1_; have HO1_1 := n2_; have HO1_2 := n3_; have HO1139 := n4_; have BK1134 := n5_; have BK1135 := n6_; have BK1136 := n7_; have HB := n8_; clear n0_ n1_ n2_ n3_ n4_ n5_ n6_ n7_ n8_; clear hb ho15; obtain ⟨Ao16, co16, eo16⟩ := Kd.N_slice HO1139.out; subst eo16) | ((with_reducible refine Zr (f := 103) rfl ?_); refine Yg (some 9) rfl rfl Try.func103 (by kernel_rfl) rfl #[.slice Ao16 y1137.length co16] rfl (by (try simp only [List.map_toArray, List.map_cons, List.map_nil]); first | done | rfl | (simp only [List.length_drop, List.length_take]; rfl)) ?_; (with_reducible refine (ratio_forms.calls k _ _ y1137 true _ ?side1 ?side2 A3.out).mono ?_); (case side1 => repeat (first | exact (Kd.N_reads' HO1139.out).2.2 | (with_reducible refine Kd.Zu ?_ _) | (with_reducible refine Kd.Zt ?_ _) | (with_reducible refine Kd.Yc ?_))); (case side2 => exact (Kd.N_reads' HO1139.out).2.1); rintro e w17 ⟨rfl, hb⟩; refine ⟨_, rfl, ?_⟩; have n0_ := Yt.mk (Kd.Yr (by (with_reducible repeat (first | apply Kd.Zz | apply Kd.Zy | apply Kd.Ye)); exact HO0_1.out) hb); have n1_ := Yt.mk (Kd.Yr (by (with_reducible repeat (first | apply Kd.Zz | apply Kd.Zy | apply Kd.Ye)); exact HO0_2.out) hb); have n2_ := Yt.mk (Kd.Yr (by (with_reducible repeat (first | apply Kd.Zz | apply Kd.Zy | apply Kd.Ye)); exact HO1_1.out) hb); have n3_ := Yt.mk (Kd.Yr (by (with_reducible repeat (first | apply Kd.Zz | apply Kd.Zy | apply Kd.Ye)); exact HO1_2.out) hb); have n4_ := Yt.mk (Kd.N_below (by (with_reducible repeat (first | apply Kd.N_alloc | apply Kd.N_drewN | apply Kd.N_drew)); exact HO1139.out) hb); have n5_ := Yt.mk (Zq (g := gb1134) (o := .cells #[.bool a0_0, .slice A0_1 l0_1.length c0_1, .slice A0_2 l0_2.length c0_2] 50 (0, 0)) (by (with_reducible repeat (first | refine Zg ?_ _ | refine Zi ?_ | refine Zh ?_ _)); exact BK1134.out) hb); have n6_ := Yt.mk (Zq (g := gb1135) (o := .cells #[.bool a1_0, .slice A1_1 l1_1.length c1_1, .slice A1_2 l1_2.length c1_2] 50 (0, 0)) (by (with_reducible repeat (first | refine Zg ?_ _ | refine Zi ?_ | refine Zh ?_ _)); exact BK1135.out) hb); have n7_ := Yt.mk (Zq (g := gb1136) (o := .cells #[.bool false, .slice none 0 0, .slice none 0 0] 50 (0, 0)) (by (with_reducible repeat (first | refine Zg ?_ _ | refine Zi ?_ | refine Zh ?_ _)); exact BK1136.out) hb); have n8_ := Yt.mk (Zm (by repeat (first | (with_reducible first | exact HB.out | apply Zb | apply Za | apply Zc | refine Zd ?_ GE1134.out | refine Zd ?_ GE1135.out | refine Zd ?_ GE1136.out) | exact HB.out)) hb); clear HO0_1; clear HO0_2; clear HO1_1; clear HO1_2; clear HO1139; clear BK1134; clear BK1135; clear BK1136; clear HB; have HO0_1 := n0_; have HO0_2 := n1_; have HO1_1 := n2_; have HO1_2 := n3_; have HO1139 := n4_; have BK1134 := n5_; have BK1135 := n6_; have BK1136 := n7_; have HB := n8_; clear n0_ n1_ n2_ n3_ n4_ n5_ n6_ n7_ n8_; (try clear hb); (try clear hb2); (try clear hk); (try clear hi); have hcz18_0 : w17.cell? ⟨gb1134, 0, none⟩ = some (.bool a0_0) := (Zl BK1134.out 0).trans rfl; have hcz18_1 : w17.cell? ⟨gb1134, 1, none⟩ = some (.slice A0_1 l0_1.length c0_1) := (Zl BK1134.out 1).trans rfl; have hcz18_2 : w17.cell? ⟨gb1134, 2, none⟩ = some (.slice A0_2 l0_2.length c0_2) := (Zl BK1134.out 2).trans rfl; have hfz18_0 := Zn BK1134.out 0; have hfz18_1 := Zn BK1134.out 1; have hfz18_2 := Zn BK1134.out 2; have hcz19_0 : w17.cell? ⟨gb1135, 0, none⟩ = some (.bool a1_0) := (Zl BK1135.out 0).trans rfl; have hcz19_1 : w17.cell? ⟨gb1135, 1, none⟩ = some (.slice A1_1 l1_1.length c1_1) := (Zl BK1135.out 1).trans rfl; have hcz19_2 : w17.cell? ⟨gb1135, 2, none⟩ = some (.slice A1_2 l1_2.length c1_2) := (Zl BK1135.out 2).trans rfl; have hfz19_0 := Zn BK1135.out 0; have hfz19_1 := Zn BK1135.out 1; have hfz19_2 := Zn BK1135.out 2) | ((with_reducible refine Zr (f := 106) rfl ?_); refine Yg (some 14) rfl rfl Try.func106 (by kernel_rfl) rfl #[.agg #[.bool a0_0, .slice A0_1 l0_1.length c0_1, .slice A0_2 l0_2.length c0_2], .agg #[.bool a1_0, .slice A1_1 l1_1.length c1_1, .slice A1_2 l1_2.length c1_2]] rfl (by (try simp only [List.map_toArray, List.map_cons, List.map_nil]); first | done | rfl | (simp only [List.length_drop, List.length_take]; rfl)) ?_; (with_reducible refine (ratio_add.calls k a0_0 _ _ l0_1 _ _ l0_2 a1_0 _ _ l1_1 _ _ l1_2 t1141 t1142 t1145 t1148 _ ?side1 ?side2 ?side3 ?side4 ?side5 ?side6 ?side7 ?side8 A5.out).mono ?_); (case side1 => repeat (first | exact (Kd.Yn HO0_1.out).2.2 | (with_reducible refine Kd.Zu ?_ _) | (with_reducible refine Kd.Zt ?_ _) | (with_reducible refine Kd.Yc ?_))); (case side2 => exact (Kd.Yn HO0_1.out).2.1); (case side3 => repeat (first | exact (Kd.Yn HO0_2.out).2.2 | (with_reducible refine Kd.Zu ?_ _) | (with_reducible refine Kd.Zt ?_ _) | (with_reducible refine Kd.Yc ?_))); (case side4 => exact (Kd.Yn HO0_2.out).2.1); (case side5 => repeat (first | exact (Kd.Yn HO1_1.out).2.2 | (with_reducible refine Kd.Zu ?_ _) | (with_reducible refine Kd.Zt ?_ _) | (with_reducible refine Kd.Yc ?_))); (case side6 => exact (Kd.Yn HO1_1.out).2.1); (case side7 => repeat (first | exact (Kd.Yn HO1_2.out).2.2 | (with_reducible refine Kd.Zu ?_ _) | (with_reducible refine Kd.Zt ?_ _) | (with_reducible refine Kd.Yc ?_))); (case side8 => exact (Kd.Yn HO1_2.out).2.1); rintro e w20 ⟨v1143, v1146, rfl, ho0, ho1, hb⟩; refine ⟨_, rfl, ?_⟩; have n0_ := Yt.mk (Kd.Yp (Kd.V_told (Kd.V_told (Kd.V_old (by (with_reducible repeat (first | apply Kd.Zz | apply Kd.Zy | apply Kd.Ye)); exact HO0_1.out) hb) (Kd.Zw ho0)) (Kd.Zw ho1)) (fun _ h_ => h_.1)); have n1_ := Yt.mk (Kd.Yp (Kd.V_told (Kd.V_told (Kd.V_old (by (with_reducible repeat (first | apply Kd.Zz | apply Kd.Zy | apply Kd.Ye)); exact HO0_2.out) hb) (Kd.Zw ho0)) (Kd.Zw ho1)) (fun _ h_ => h_.1)); have n2_ := Yt.mk (Kd.Yp (Kd.V_told (Kd.V_told (Kd.V_old (by (with_reducible repeat (first | apply Kd.Zz | apply Kd.Zy | apply Kd.Ye)); exact HO1_1.out) hb) (Kd.Zw ho0)) (Kd.Zw ho1)) (fun _ h_ => h_.1)); have n3_ := Yt.mk (Kd.Yp (Kd.V_told (Kd.V_told (Kd.V_old (by (with_reducible repeat (first | apply Kd.Zz | apply Kd.Zy | apply Kd.Ye)); exact HO1_2.out) hb) (Kd.Zw ho0)) (Kd.Zw ho1)) (fun _ h_ => h_.1)); have n4_ := Yt.mk (Kd.N_mono (Kd.N_told (Kd.N_told (Kd.N_old (by (with_reducible repeat (first | apply Kd.N_alloc | apply Kd.N_drewN | apply Kd.N_drew)); exact HO1139.out) hb) (Kd.Zw ho0)) (Kd.Zw ho1)) (fun _ h_ => h_.1)); have n5_ := Yt.mk (Kd.Yb (Kd.R_newM (M := fun k_ => (w.heap.size ≤ k_)) ho0 (Zk (by repeat (first | (with_reducible first | exact HB.out | apply Zb | apply Za | apply Zc | refine Zd ?_ GE1134.out | refine Zd ?_ GE1135.out | refine Zd ?_ GE1136.out) | exact HB.out))) (fun k_ h_ => h_)) (Zk (by repeat (first | (with_reducible first | exact HB.out | apply Zb | apply Za | apply Zc | refine Zd ?_ GE1134.out | refine Zd ?_ GE1135.out | refine Zd ?_ GE1136.out) | exact HB.out)))); have n6_ := Yt.mk (Kd.Yb (Kd.R_newM (M := fun k_ => (w.heap.size ≤ k_)) ho1 (Zk (by repeat (first | (with_reducible first | exact HB.out | apply Zb | apply Za | apply Zc | refine Zd ?_ GE1134.out | refine Zd ?_ GE1135.out | refine Zd ?_ GE1136.out) | exact HB.out))) (fun k_ h_ => h_)) (Zk (by repeat (first | (with_reducible first | exact HB.out | apply Zb | apply Za | apply Zc | refine Zd ?_ GE1134.out | refine Zd ?_ GE1135.out | refine Zd ?_ GE1136.out) | exact HB.out)))); have n7_ := Yt.mk (Zq (g := gb1134) (o := .cells #[.bool a0_0, .slice A0_1 l0_1.length c0_1, .slice A0_2 l0_2.length c0_2] 50 (0, 0)) (by (with_reducible repeat (first | refine Zg ?_ _ | refine Zi ?_ | refine Zh ?_ _)); exact BK1134.out) hb); have n8_ := Yt.mk (Zq (g := gb1135) (o := .cells #[.bool a1_0, .slice A1_1 l1_1.length c1_1, .slice A1_2 l1_2.length c1_2] 50 (0, 0)) (by (with_reducible repeat (first | refine Zg ?_ _ | refine Zi ?_ | refine Zh ?_ _)); exact BK1135.out) hb); have n9_ := Yt.mk (Zq (g := gb1136) (o := .cells #[.bool false, .slice none 0 0, .slice none 0 0] 50 (0, 0)) (by (with_reducible repeat (first | refine Zg ?_ _ | refine Zi ?_ | refine Zh ?_ _)); exact BK1136.out) hb); have n10_ := Yt.mk (Zm (by repeat (first | (with_reducible first | exact HB.out | apply Zb | apply Za | apply Zc | refine Zd ?_ GE1134.out | refine Zd ?_ GE1135.out | refine Zd ?_ GE1136.out) | exact HB.out)) hb); clear HO0_1; clear HO0_2; clear HO1_1; clear HO1_2; clear HO1139; clear BK1134; clear BK1135; clear BK1136; clear HB; have HO0_1 := n0_; have HO0_2 := n1_; have HO1_1 := n2_; have HO1_2 := n3_; have HO1139 := n4_; have HO1144 := n5_; have HO1147 := n6_; have BK1134 := n7_; have BK1135 := n8_; have BK1136 := n9_; have HB := n10_; clear n0_ n1_ n2_ n3_ n4_ n5_ n6_ n7_ n8_ n9_ n10_; (try clear hb); (try clear hb2); (try clear hk); (try clear hi); (try clear ho0); (try clear ho1); have hcz21_0 : w20.cell? ⟨gb1136, 0, none⟩ = some (.bool false) := (Zl BK1136.out 0).trans rfl; have hcz21_1 : w20.cell? ⟨gb1136, 1, none⟩ = some (.slice none 0 0) := (Zl BK1136.out 1).trans rfl; have hcz21_2 : w20.cell? ⟨gb1136, 2, none⟩ = some (.slice none 0 0) := (Zl BK1136.out 2).trans rfl; have hfz21_0 := Zn BK1136.out 0; have hfz21_1 := Zn BK1136.out 1; have hfz21_2 := Zn BK1136.out 2; obtain ⟨Ao22, co22, eo22⟩ := Kd.Zx HO1144.out; subst eo22; obtain ⟨Ao23, co23, eo23⟩ := Kd.Zx HO1147.out; subst eo23))
  refine bodyPost_ret (results_ct rfl _ _ gb1136 50 #[.bool t1141, .slice Ao22 t1142.length co22, .slice Ao23 t1145.length co23] (0, 0) _ rfl (by (with_reducible repeat (first | refine Zg ?_ _ | refine Zi ?_ | refine Zh ?_ _)); refine Ym (cs := #[.bool t1141, .slice Ao22 t1142.length co22, .slice none 0 0]) ?_ 2 _ rfl; (with_reducible repeat (first | refine Zg ?_ _ | refine Zi ?_ | refine Zh ?_ _)); refine Ym (cs := #[.bool t1141, .slice none 0 0, .slice none 0 0]) ?_ 1 _ rfl; (with_reducible repeat (first | refine Zg ?_ _ | refine Zi ?_ | refine Zh ?_ _)); refine Ym (cs := #[.bool false, .slice none 0 0, .slice none 0 0]) ?_ 0 _ rfl; (with_reducible repeat (first | refine Zg ?_ _ | refine Zi ?_ | refine Zh ?_ _)); exact BK1136.out) Try.underlying50 rfl (by kernel_rfl)) rfl ?_
  exact ⟨_, _, by first | rfl | (simp [Zp, Zo] <;> rfl) | (simp [*, Zp, Zo] <;> rfl), by (with_reducible repeat (first | apply Kd.Zf | apply Kd.Ze | apply Kd.Zj)); exact Kd.Zv (Kd.Yh (p := ⟨gb1136, 2, none⟩) (Kd.Yh (p := ⟨gb1136, 1, none⟩) (Kd.Yh (p := ⟨gb1136, 0, none⟩) (Kd.Yq HO1144.out BK1136.out (by decide)) (fun _ hk => hk.2) (.bool t1141)) (fun _ hk => hk.2) (.slice Ao22 t1142.length co22)) (fun _ hk => hk.2) (.slice Ao23 t1145.length co23)) (fun _ hk => ⟨hk.1.1, hk.1.2⟩), by (with_reducible repeat (first | apply Kd.Zf | apply Kd.Ze | apply Kd.Zj)); exact Kd.Zv (Kd.Yh (p := ⟨gb1136, 2, none⟩) (Kd.Yh (p := ⟨gb1136, 1, none⟩) (Kd.Yh (p := ⟨gb1136, 0, none⟩) (Kd.Yq HO1147.out BK1136.out (by decide)) (fun _ hk => hk.2) (.bool t1141)) (fun _ hk => hk.2) (.slice Ao22 t1142.length co22)) (fun _ hk => hk.2) (.slice Ao23 t1145.length co23)) (fun _ hk => ⟨hk.1.1, hk.1.2⟩), by repeat (first | (with_reducible first | exact HB.out | apply Zb | apply Za | apply Zc | refine Zd ?_ GE1134.out | refine Zd ?_ GE1135.out | refine Zd ?_ GE1136.out) | exact HB.out)⟩
 ·replace c4 := Bool.eq_false_iff.mpr c4
  subst c4
  have H1 : (some (false, ([] : List Int), ([] : List Int), 20)) = some (r1, r2, r3, r4) := by rw [if_neg (show ¬ (false = true) by decide)] at H; exact H
  clear H
  have H := H1
  clear H1
  simp only [Option.some.injEq, Prod.mk.injEq] at H
  obtain ⟨rfl, rfl, rfl, rfl⟩ := H
  go_enter Try.func70, Try.ntmps70
  go_wp2_with (first | ((with_reducible refine Yk (N := 2) rfl ?_); refine Yo ?hg (N := 2) ?hd (cs := #[.bool a0_0, .slice A0_1 l0_1.length c0_1, .slice A0_2 l0_2.length c0_2]) (t := 50) ?hr ?_; (case hd => rfl); (case hg => rfl); (case hr => first | (go_simp; done) | (go_simp; rfl)); intro gb1134 hg w24 hbox hb; have n0_ := Yt.mk (Kd.Yr (Kd.V_elderB (by (with_reducible repeat (first | apply Kd.Zz | apply Kd.Zy | apply Kd.Ye)); exact HO0_1.out) gb1134 (Nat.le_of_eq hg.symm)) hb); have n1_ := Yt.mk (Kd.Yr (Kd.V_elderB (by (with_reducible repeat (first | apply Kd.Zz | apply Kd.Zy | apply Kd.Ye)); exact HO0_2.out) gb1134 (Nat.le_of_eq hg.symm)) hb); have n2_ := Yt.mk (Kd.Yr (Kd.V_elderB (by (with_reducible repeat (first | apply Kd.Zz | apply Kd.Zy | apply Kd.Ye)); exact HO1_1.out) gb1134 (Nat.le_of_eq hg.symm)) hb); have n3_ := Yt.mk (Kd.Yr (Kd.V_elderB (by (with_reducible repeat (first | apply Kd.Zz | apply Kd.Zy | apply Kd.Ye)); exact HO1_2.out) gb1134 (Nat.le_of_eq hg.symm)) hb); have n4_ := Yt.mk (Zm (by repeat (first | (with_reducible first | exact HB.out | apply Zb | apply Za | apply Zc) | exact HB.out)) hb); have n5_ := Yt.mk (hbox); have n6_ := Yt.mk ((by rw [hg]; exact (Zk (by repeat (first | (with_reducible first | exact HB.out | apply Zb | apply Za | apply Zc) | exact HB.out))) : w.heap.size ≤ gb1134)); have n7_ := Yt.mk ((by rw [hg]; exact (Zk (by repeat (first | (with_reducible first | exact HB.out | apply Zb | apply Za | apply Zc) | exact HB.out))) : w.heap.size ≤ gb1134)); clear HO0_1; clear HO0_2; clear HO1_1; clear HO1_2; clear HB; have HO0_1 := n0_; have HO0_2 := n1_; have HO1_1 := n2_; have HO1_2 := n3_; have HB := n4_; have BK1134 := n5_; have GW1134 := n6_; have GE1134 := n7_; clear n0_ n1_ n2_ n3_ n4_ n5_ n6_ n7_; clear hb hbox hg) | ((with_reducible refine Yk (N := 3) rfl ?_); refine Yo ?hg (N := 3) ?hd (cs := #[.bool a1_0, .slice A1_1 l1_1.length c1_1, .slice A1_2 l1_2.length c1_2]) (t := 50) ?hr ?_; (case hd => rfl); (case hg => rfl); (case hr => first | (go_simp; done) | (go_simp; rfl)); intro gb1135 hg w25 hbox hb; have n0_ := Yt.mk (Kd.Yr (Kd.V_elderB (by (with_reducible repeat (first | apply Kd.Zz | apply Kd.Zy | apply Kd.Ye)); exact HO0_1.out) gb1135 (Nat.le_of_eq hg.symm)) hb); have n1_ := Yt.mk (Kd.Yr (Kd.V_elderB (by (with_reducible repeat (first | apply Kd.Zz | apply Kd.Zy | apply Kd.Ye)); exact HO0_2.out) gb1135 (Nat.le_of_eq hg.symm)) hb); have n2_ := Yt.mk (Kd.Yr (Kd.V_elderB (by (with_reducible repeat (first | apply Kd.Zz | apply Kd.Zy | apply Kd.Ye)); exact HO1_1.out) gb1135 (Nat.le_of_eq hg.symm)) hb); have n3_ := Yt.mk (Kd.Yr (Kd.V_elderB (by (with_reducible repeat (first | apply Kd.Zz | apply Kd.Zy | apply Kd.Ye)); exact HO1_2.out) gb1135 (Nat.le_of_eq hg.symm)) hb); have n4_ := Yt.mk (Zq (g := gb1134) (o := .cells #[.bool a0_0, .slice A0_1 l0_1.length c0_1, .slice A0_2 l0_2.length c0_2] 50 (0, 0)) (by (with_reducible repeat (first | refine Zg ?_ _ | refine Zi ?_ | refine Zh ?_ _)); exact BK1134.out) hb); have n5_ := Yt.mk (Zm (by repeat (first | (with_reducible first | exact HB.out | apply Zb | apply Za | apply Zc | refine Zd ?_ GE1134.out) | exact HB.out)) hb); have n6_ := Yt.mk (hbox); have n7_ := Yt.mk ((by rw [hg]; exact (Zk (by repeat (first | (with_reducible first | exact HB.out | apply Zb | apply Za | apply Zc | refine Zd ?_ GE1134.out) | exact HB.out))) : w.heap.size ≤ gb1135)); have n8_ := Yt.mk ((by rw [hg]; exact (Zk (by repeat (first | (with_reducible first | exact HB.out | apply Zb | apply Za | apply Zc | refine Zd ?_ GE1134.out) | exact HB.out))) : w.heap.size ≤ gb1135)); have n9_ := Yt.mk ((by rw [hg]; exact Nat.ne_of_lt (blk_lt (g := gb1134) (o := .cells #[.bool a0_0, .slice A0_1 l0_1.length c0_1, .slice A0_2 l0_2.length c0_2] 50 (0, 0)) (by (with_reducible repeat (first | refine Zg ?_ _ | refine Zi ?_ | refine Zh ?_ _)); exact BK1134.out)) : gb1134 ≠ gb1135)); have n10_ := Yt.mk ((by rw [hg]; exact Nat.ne_of_gt (blk_lt (g := gb1134) (o := .cells #[.bool a0_0, .slice A0_1 l0_1.length c0_1, .slice A0_2 l0_2.length c0_2] 50 (0, 0)) (by (with_reducible repeat (first | refine Zg ?_ _ | refine Zi ?_ | refine Zh ?_ _)); exact BK1134.out)) : gb1135 ≠ gb1134)); clear HO0_1; clear HO0_2; clear HO1_1; clear HO1_2; clear BK1134; clear HB; have HO0_1 := n0_; have HO0_2 := n1_; have HO1_1 := n2_; have HO1_2 := n3_; have BK1134 := n4_; have HB := n5_; have BK1135 := n6_; have GW1135 := n7_; have GE1135 := n8_; have NB1134_1135 := n9_; have NB1135_1134 := n10_; clear n0_ n1_ n2_ n3_ n4_ n5_ n6_ n7_ n8_ n9_ n10_; clear hb hbox hg) | ((with_reducible refine Yk (N := 4) rfl ?_); refine Yo ?hg (N := 4) ?hd (cs := #[.bool false, .slice none 0 0, .slice none 0 0]) (t := 50) ?hr ?_; (case hd => rfl); (case hg => rfl); (case hr => first | (go_simp; done) | (go_simp; rfl)); intro gb1136 hg w26 hbox hb; have n0_ := Yt.mk (Kd.Yr (Kd.V_elderB (by (with_reducible repeat (first | apply Kd.Zz | apply Kd.Zy | apply Kd.Ye)); exact HO0_1.out) gb1136 (Nat.le_of_eq hg.symm)) hb); have n1_ := Yt.mk (Kd.Yr (Kd.V_elderB (by (with_reducible repeat (first | apply Kd.Zz | apply Kd.Zy | apply Kd.Ye)); exact HO0_2.out) gb1136 (Nat.le_of_eq hg.symm)) hb); have n2_ := Yt.mk (Kd.Yr (Kd.V_elderB (by (with_reducible repeat (first | apply Kd.Zz | apply Kd.Zy | apply Kd.Ye)); exact HO1_1.out) gb1136 (Nat.le_of_eq hg.symm)) hb); have n3_ := Yt.mk (Kd.Yr (Kd.V_elderB (by (with_reducible repeat (first | apply Kd.Zz | apply Kd.Zy | apply Kd.Ye)); exact HO1_2.out) gb1136 (Nat.le_of_eq hg.symm)) hb); have n4_ := Yt.mk (Zq (g := gb1134) (o := .cells #[.bool a0_0, .slice A0_1 l0_1.length c0_1, .slice A0_2 l0_2.length c0_2] 50 (0, 0)) (by (with_reducible repeat (first | refine Zg ?_ _ | refine Zi ?_ | refine Zh ?_ _)); exact BK1134.out) hb); have n5_ := Yt.mk (Zq (g := gb1135) (o := .cells #[.bool a1_0, .slice A1_1 l1_1.length c1_1, .slice A1_2 l1_2.length c1_2] 50 (0, 0)) (by (with_reducible repeat (first | refine Zg ?_ _ | refine Zi ?_ | refine Zh ?_ _)); exact BK1135.out) hb); have n6_ := Yt.mk (Zm (by repeat (first | (with_reducible first | exact HB.out | apply Zb | apply Za | apply Zc | refine Zd ?_ GE1134.out | refine Zd ?_ GE1135.out) | exact HB.out)) hb); have n7_ := Yt.mk (hbox); have n8_ := Yt.mk ((by rw [hg]; exact (Zk (by repeat (first | (with_reducible first | exact HB.out | apply Zb | apply Za | apply Zc | refine Zd ?_ GE1134.out | refine Zd ?_ GE1135.out) | exact HB.out))) : w.heap.size ≤ gb1136)); have n9_ := Yt.mk ((by rw [hg]; exact (Zk (by repeat (first | (with_reducible first | exact HB.out | apply Zb | apply Za | apply Zc | refine Zd ?_ GE1134.out | refine Zd ?_ GE1135.out) | exact HB.out))) : w.heap.size ≤ gb1136)); have n10_ := Yt.mk ((by rw [hg]; exact Nat.ne_of_lt (blk_lt (g := gb1134) (o := .cells #[.bool a0_0, .slice A0_1 l0_1.length c0_1, .slice A0_2 l0_2.length c0_2] 50 (0, 0)) (by (with_reducible repeat (first | refine Zg ?_ _ | refine Zi ?_ | refine Zh ?_ _)); exact BK1134.out)) : gb1134 ≠ gb1136)); have n11_ := Yt.mk ((by rw [hg]; exact Nat.ne_of_gt (blk_lt (g := gb1134) (o := .cells #[.bool a0_0, .slice A0_1 l0_1.length c0_1, .slice A0_2 l0_2.length c0_2] 50 (0, 0)) (by (with_reducible repeat (first | refine Zg ?_ _ | refine Zi ?_ | refine Zh ?_ _)); exact BK1134.out)) : gb1136 ≠ gb1134)); have n12_ := Yt.mk ((by rw [hg]; exact Nat.ne_of_lt (blk_lt (g := gb1135) (o := .cells #[.bool a1_0, .slice A1_1 l1_1.length c1_1, .slice A1_2 l1_2.length c1_2] 50 (0, 0)) (by (with_reducible repeat (first | refine Zg ?_ _ | refine Zi ?_ | refine Zh ?_ _)); exact BK1135.out)) : gb1135 ≠ gb1136)); have n13_ := Yt.mk ((by rw [hg]; exact Nat.ne_of_gt (blk_lt (g := gb1135) (o := .cells #[.bool a1_0, .slice A1_1 l1_1.length c1_1, .slice A1_2 l1_2.length c1_2] 50 (0, 0)) (by (with_reducible repeat (first | refine Zg ?_ _ | refine Zi ?_ | refine Zh ?_ _)); exact BK1135.out)) : gb1136 ≠ gb1135)); clear HO0_1; clear HO0_2; clear HO1_1; clear HO1_2; clear BK1134; clear BK1135; clear HB; have HO0_1 := n0_; have HO0_2 := n1_; have HO1_1 := n2_; have HO1_2 := n3_; have BK1134 := n4_; have BK1135 := n5_; have HB := n6_; have BK1136 := n7_; have GW1136 := n8_; have GE1136 := n9_; have NB1134_1136 := n10_; have NB1136_1134 := n11_; have NB1135_1136 := n12_; have NB1136_1135 := n13_; clear n0_ n1_ n2_ n3_ n4_ n5_ n6_ n7_ n8_ n9_ n10_ n11_ n12_ n13_; clear hb hbox hg; have hnb27 := NB1134_1135.out; have hnc27 := NB1135_1134.out; have hnb28 := NB1134_1136.out; have hnc28 := NB1136_1134.out; have hcz29_0 : w26.cell? ⟨gb1134, 0, none⟩ = some (.bool a0_0) := (Zl BK1134.out 0).trans rfl; have hcz29_1 : w26.cell? ⟨gb1134, 1, none⟩ = some (.slice A0_1 l0_1.length c0_1) := (Zl BK1134.out 1).trans rfl; have hcz29_2 : w26.cell? ⟨gb1134, 2, none⟩ = some (.slice A0_2 l0_2.length c0_2) := (Zl BK1134.out 2).trans rfl; have hfz29_0 := Zn BK1134.out 0; have hfz29_1 := Zn BK1134.out 1; have hfz29_2 := Zn BK1134.out 2; have hnb30 := NB1135_1136.out; have hnc30 := NB1136_1135.out; have hcz31_0 : w26.cell? ⟨gb1135, 0, none⟩ = some (.bool a1_0) := (Zl BK1135.out 0).trans rfl; have hcz31_1 : w26.cell? ⟨gb1135, 1, none⟩ = some (.slice A1_1 l1_1.length c1_1) := (Zl BK1135.out 1).trans rfl; have hcz31_2 : w26.cell? ⟨gb1135, 2, none⟩ = some (.slice A1_2 l1_2.length c1_2) := (Zl BK1135.out 2).trans rfl; have hfz31_0 := Zn BK1135.out 0; have hfz31_1 := Zn BK1135.out 1; have hfz31_2 := Zn BK1135.out 2) | ((with_reducible refine Yk (N := 8) rfl ?_); refine Kd.N_lit k50 _ 50 ?hg (N' := 8) ?hd (xs := ([(⟨a0_0, l0_1, l0_2⟩ : S50), (⟨a1_0, l1_1, l1_2⟩ : S50)] : List (S50))) (inner := [.bool a0_0, .slice A0_1 l0_1.length c0_1, .slice A0_2 l0_2.length c0_2, .bool a1_0, .slice A1_1 l1_1.length c1_1, .slice A1_2 l1_2.length c1_2]) (ok := (fun k_ => ((P0_1_ k_ ∨ P0_2_ k_ ∨ P1_1_ k_ ∨ P1_2_ k_) ∨ w.heap.size ≤ k_) ∧ k_ ≠ gb1134 ∧ k_ ≠ gb1135 ∧ k_ ≠ gb1136)) (okp := (fun k_ => ((P0_1_ k_ ∨ P0_2_ k_ ∨ P1_1_ k_ ∨ P1_2_ k_) ∨ w.heap.size ≤ k_) ∧ k_ ≠ gb1134 ∧ k_ ≠ gb1135 ∧ k_ ≠ gb1136)) ?hr ?hp (fun _ hk => hk) ((show ∀ k_, w26.heap.size ≤ k_ → (fun k_ => ((P0_1_ k_ ∨ P0_2_ k_ ∨ P1_1_ k_ ∨ P1_2_ k_) ∨ w.heap.size ≤ k_) ∧ k_ ≠ gb1134 ∧ k_ ≠ gb1135 ∧ k_ ≠ gb1136) k_ from fun k_ hk => ⟨(.inr (Nat.le_trans (Zk (by repeat (first | (with_reducible first | exact HB.out | apply Zb | apply Za | apply Zc | refine Zd ?_ GE1134.out | refine Zd ?_ GE1135.out | refine Zd ?_ GE1136.out) | exact HB.out))) hk)), Kd.freshB (g := gb1134) (o := .cells #[.bool a0_0, .slice A0_1 l0_1.length c0_1, .slice A0_2 l0_2.length c0_2] 50 (0, 0)) (by (with_reducible repeat (first | refine Zg ?_ _ | refine Zi ?_ | refine Zh ?_ _)); exact BK1134.out) k_ hk, Kd.freshB (g := gb1135) (o := .cells #[.bool a1_0, .slice A1_1 l1_1.length c1_1, .slice A1_2 l1_2.length c1_2] 50 (0, 0)) (by (with_reducible repeat (first | refine Zg ?_ _ | refine Zi ?_ | refine Zh ?_ _)); exact BK1135.out) k_ hk, Kd.freshB (g := gb1136) (o := .cells #[.bool false, .slice none 0 0, .slice none 0 0] 50 (0, 0)) (by (with_reducible repeat (first | refine Zg ?_ _ | refine Zi ?_ | refine Zh ?_ _)); exact BK1136.out) k_ hk⟩) _ (Nat.le_refl _)) (Below.refl _ _) (Nat.le_refl _) (by simp) ?_; (case hd => rfl); (case hg => rfl); (case hr => first | (go_simp; done) | (go_simp; rfl)); (case hp => exact (Reps.c3 (show Kd.FK k50 _ _ (⟨a0_0, l0_1, l0_2⟩ : S50) [.bool a0_0, .slice A0_1 l0_1.length c0_1, .slice A0_2 l0_2.length c0_2] from (k50_mkF _ _ (⟨a0_0, l0_1, l0_2⟩ : S50) (Kd.Yn (Kd.Yp (ok' := (fun k_ => ((P0_1_ k_ ∨ P0_2_ k_ ∨ P1_1_ k_ ∨ P1_2_ k_) ∨ w.heap.size ≤ k_) ∧ k_ ≠ gb1134 ∧ k_ ≠ gb1135 ∧ k_ ≠ gb1136)) (HO0_1.out) (fun k_ hk => ⟨hk.1.1.1, ⟨hk.1.1.2, ⟨hk.1.2, hk.2⟩⟩⟩))).2.1 (Kd.V_F (Kd.Yp (ok' := (fun k_ => ((P0_1_ k_ ∨ P0_2_ k_ ∨ P1_1_ k_ ∨ P1_2_ k_) ∨ w.heap.size ≤ k_) ∧ k_ ≠ gb1134 ∧ k_ ≠ gb1135 ∧ k_ ≠ gb1136)) (HO0_1.out) (fun k_ hk => ⟨hk.1.1.1, ⟨hk.1.1.2, ⟨hk.1.2, hk.2⟩⟩⟩))) (Kd.Yn (Kd.Yp (ok' := (fun k_ => ((P0_1_ k_ ∨ P0_2_ k_ ∨ P1_1_ k_ ∨ P1_2_ k_) ∨ w.heap.size ≤ k_) ∧ k_ ≠ gb1134 ∧ k_ ≠ gb1135 ∧ k_ ≠ gb1136)) (HO0_2.out) (fun k_ hk => ⟨hk.1.1.1, ⟨hk.1.1.2, ⟨hk.1.2, hk.2⟩⟩⟩))).2.1 (Kd.V_F (Kd.Yp (ok' := (fun k_ => ((P0_1_ k_ ∨ P0_2_ k_ ∨ P1_1_ k_ ∨ P1_2_ k_) ∨ w.heap.size ≤ k_) ∧ k_ ≠ gb1134 ∧ k_ ≠ gb1135 ∧ k_ ≠ gb1136)) (HO0_2.out) (fun k_ hk => ⟨hk.1.1.1, ⟨hk.1.1.2, ⟨hk.1.2, hk.2⟩⟩⟩))))) (Reps.c3 (show Kd.FK k50 _ _ (⟨a1_0, l1_1, l1_2⟩ : S50) [.bool a1_0, .slice A1_1 l1_1.length c1_1, .slice A1_2 l1_2.length c1_2] from (k50_mkF _ _ (⟨a1_0, l1_1, l1_2⟩ : S50) (Kd.Yn (Kd.Yp (ok' := (fun k_ => ((P0_1_ k_ ∨ P0_2_ k_ ∨ P1_1_ k_ ∨ P1_2_ k_) ∨ w.heap.size ≤ k_) ∧ k_ ≠ gb1134 ∧ k_ ≠ gb1135 ∧ k_ ≠ gb1136)) (HO1_1.out) (fun k_ hk => ⟨hk.1.1.1, ⟨hk.1.1.2, ⟨hk.1.2, hk.2⟩⟩⟩))).2.1 (Kd.V_F (Kd.Yp (ok' := (fun k_ => ((P0_1_ k_ ∨ P0_2_ k_ ∨ P1_1_ k_ ∨ P1_2_ k_) ∨ w.heap.size ≤ k_) ∧ k_ ≠ gb1134 ∧ k_ ≠ gb1135 ∧ k_ ≠ gb1136)) (HO1_1.out) (fun k_ hk => ⟨hk.1.1.1, ⟨hk.1.1.2, ⟨hk.1.2, hk.2⟩⟩⟩))) (Kd.Yn (Kd.Yp (ok' := (fun k_ => ((P0_1_ k_ ∨ P0_2_ k_ ∨ P1_1_ k_ ∨ P1_2_ k_) ∨ w.heap.size ≤ k_) ∧ k_ ≠ gb1134 ∧ k_ ≠ gb1135 ∧ k_ ≠ gb1136)) (HO1_2.out) (fun k_ hk => ⟨hk.1.1.1, ⟨hk.1.1.2, ⟨hk.1.2, hk.2⟩⟩⟩))).2.1 (Kd.V_F (Kd.Yp (ok' := (fun k_ => ((P0_1_ k_ ∨ P0_2_ k_ ∨ P1_1_ k_ ∨ P1_2_ k_) ∨ w.heap.size ≤ k_) ∧ k_ ≠ gb1134 ∧ k_ ≠ gb1135 ∧ k_ ≠ gb1136)) (HO1_2.out) (fun k_ hk => ⟨hk.1.1.1, ⟨hk.1.1.2, ⟨hk.1.2, hk.2⟩⟩⟩))))) (Reps.none _ _)))); intro v1138 w32 ho33 hb hg_ hnew_; clear hg_ hnew_; (first | rw [← Ny1137.out] at ho33 | (simp only [Int.reduceToNat] at ho33; rw [← Ny1137.out] at ho33)); have n0_ := Yt.mk (Kd.V_elder' (by (with_reducible repeat (first | apply Kd.Zz | apply Kd.Zy | apply Kd.Ye)); exact HO0_1.out) (Kd.N_base ho33) hb); have n1_ := Yt.mk (Kd.V_elder' (by (with_reducible repeat (first | apply Kd.Zz | apply Kd.Zy | apply Kd.Ye)); exact HO0_2.out) (Kd.N_base ho33) hb); have n2_ := Yt.mk (Kd.V_elder' (by (with_reducible repeat (first | apply Kd.Zz | apply Kd.Zy | apply Kd.Ye)); exact HO1_1.out) (Kd.N_base ho33) hb); have n3_ := Yt.mk (Kd.V_elder' (by (with_reducible repeat (first | apply Kd.Zz | apply Kd.Zy | apply Kd.Ye)); exact HO1_2.out) (Kd.N_base ho33) hb); have n4_ := Yt.mk (Kd.N_lower ho33 (Zk (by repeat (first | (with_reducible first | exact HB.out | apply Zb | apply Za | apply Zc | refine Zd ?_ GE1134.out | refine Zd ?_ GE1135.out | refine Zd ?_ GE1136.out) | exact HB.out)))); have n5_ := Yt.mk (Zq (g := gb1134) (o := .cells #[.bool a0_0, .slice A0_1 l0_1.length c0_1, .slice A0_2 l0_2.length c0_2] 50 (0, 0)) (by (with_reducible repeat (first | refine Zg ?_ _ | refine Zi ?_ | refine Zh ?_ _)); exact BK1134.out) hb); have n6_ := Yt.mk (Zq (g := gb1135) (o := .cells #[.bool a1_0, .slice A1_1 l1_1.length c1_1, .slice A1_2 l1_2.length c1_2] 50 (0, 0)) (by (with_reducible repeat (first | refine Zg ?_ _ | refine Zi ?_ | refine Zh ?_ _)); exact BK1135.out) hb); have n7_ := Yt.mk (Zq (g := gb1136) (o := .cells #[.bool false, .slice none 0 0, .slice none 0 0] 50 (0, 0)) (by (with_reducible repeat (first | refine Zg ?_ _ | refine Zi ?_ | refine Zh ?_ _)); exact BK1136.out) hb); have n8_ := Yt.mk (Zm (by repeat (first | (with_reducible first | exact HB.out | apply Zb | apply Za | apply Zc | refine Zd ?_ GE1134.out | refine Zd ?_ GE1135.out | refine Zd ?_ GE1136.out) | exact HB.out)) hb); clear HO0_1; clear HO0_2; clear HO1_1; clear HO1_2; clear BK1134; clear BK1135; clear BK1136; clear HB; have HO0_1 := n0_; have HO0_2 := n1_; have HO1_1 := n2_; have HO1_2 := n3_; have HO1139 := n4_; have BK1134 := n5_; have BK1135 := n6_; have BK1136 := n7_; have HB := n8_; clear n0_ n1_ n2_ n3_ n4_ n5_ n6_ n7_ n8_; clear hb ho33; obtain ⟨Ao34, co34, eo34⟩ := Kd.N_slice HO1139.out; subst eo34) | ((with_reducible refine Zr (f := 103) rfl ?_); refine Yg (some 9) rfl rfl Try.func103 (by kernel_rfl) rfl #[.slice Ao34 y1137.length co34] rfl (by (try simp only [List.map_toArray, List.map_cons, List.map_nil]); first | done | rfl | (simp only [List.length_drop, List.length_take]; rfl)) ?_; (with_reducible refine (ratio_forms.calls k _ _ y1137 false _ ?side1 ?side2 A3.out).mono ?_); (case side1 => repeat (first | exact (Kd.N_reads' HO1139.out).2.2 | (with_reducible refine Kd.Zu ?_ _) | (with_reducible refine Kd.Zt ?_ _) | (with_reducible refine Kd.Yc ?_))); (case side2 => exact (Kd.N_reads' HO1139.out).2.1); rintro e w35 ⟨rfl, hb⟩; refine ⟨_, rfl, ?_⟩; have n0_ := Yt.mk (Kd.Yr (by (with_reducible repeat (first | apply Kd.Zz | apply Kd.Zy | apply Kd.Ye)); exact HO0_1.out) hb); have n1_ := Yt.mk (Kd.Yr (by (with_reducible repeat (first | apply Kd.Zz | apply Kd.Zy | apply Kd.Ye)); exact HO0_2.out) hb); have n2_ := Yt.mk (Kd.Yr (by (with_reducible repeat (first | apply Kd.Zz | apply Kd.Zy | apply Kd.Ye)); exact HO1_1.out) hb); have n3_ := Yt.mk (Kd.Yr (by (with_reducible repeat (first | apply Kd.Zz | apply Kd.Zy | apply Kd.Ye)); exact HO1_2.out) hb); have n4_ := Yt.mk (Kd.N_below (by (with_reducible repeat (first | apply Kd.N_alloc | apply Kd.N_drewN | apply Kd.N_drew)); exact HO1139.out) hb); have n5_ := Yt.mk (Zq (g := gb1134) (o := .cells #[.bool a0_0, .slice A0_1 l0_1.length c0_1, .slice A0_2 l0_2.length c0_2] 50 (0, 0)) (by (with_reducible repeat (first | refine Zg ?_ _ | refine Zi ?_ | refine Zh ?_ _)); exact BK1134.out) hb); have n6_ := Yt.mk (Zq (g := gb1135) (o := .cells #[.bool a1_0, .slice A1_1 l1_1.length c1_1, .slice A1_2 l1_2.length c1_2] 50 (0, 0)) (by (with_reducible repeat (first | refine Zg ?_ _ | refine Zi ?_ | refine Zh ?_ _)); exact BK1135.out) hb); have n7_ := Yt.mk (Zq (g := gb1136) (o := .cells #[.bool false, .slice none 0 0, .slice none 0 0] 50 (0, 0)) (by (with_reducible repeat (first | refine Zg ?_ _ | refine Zi ?_ | refine Zh ?_ _)); exact BK1136.out) hb); have n8_ := Yt.mk (Zm (by repeat (first | (with_reducible first | exact HB.out | apply Zb | apply Za | apply Zc | refine Zd ?_ GE1134.out | refine Zd ?_ GE1135.out | refine Zd ?_ GE1136.out) | exact HB.out)) hb); clear HO0_1; clear HO0_2; clear HO1_1; clear HO1_2; clear HO1139; clear BK1134; clear BK1135; clear BK1136; clear HB; have HO0_1 := n0_; have HO0_2 := n1_; have HO1_1 := n2_; have HO1_2 := n3_; have HO1139 := n4_; have BK1134 := n5_; have BK1135 := n6_; have BK1136 := n7_; have HB := n8_; clear n0_ n1_ n2_ n3_ n4_ n5_ n6_ n7_ n8_; (try clear hb); (try clear hb2); (try clear hk); (try clear hi); have hcz36_0 : w35.cell? ⟨gb1136, 0, none⟩ = some (.bool false) := (Zl BK1136.out 0).trans rfl; have hcz36_1 : w35.cell? ⟨gb1136, 1, none⟩ = some (.slice none 0 0) := (Zl BK1136.out 1).trans rfl; have hcz36_2 : w35.cell? ⟨gb1136, 2, none⟩ = some (.slice none 0 0) := (Zl BK1136.out 2).trans rfl; have hfz36_0 := Zn BK1136.out 0; have hfz36_1 := Zn BK1136.out 1; have hfz36_2 := Zn BK1136.out 2))
  refine bodyPost_ret (results_ct rfl _ _ gb1136 50 #[.bool false, .slice none 0 0, .slice none 0 0] (0, 0) _ rfl (by (with_reducible repeat (first | refine Zg ?_ _ | refine Zi ?_ | refine Zh ?_ _)); refine Ym (cs := #[.bool false, .slice none 0 0, .slice none 0 0]) ?_ 2 _ rfl; (with_reducible repeat (first | refine Zg ?_ _ | refine Zi ?_ | refine Zh ?_ _)); refine Ym (cs := #[.bool false, .slice none 0 0, .slice none 0 0]) ?_ 1 _ rfl; (with_reducible repeat (first | refine Zg ?_ _ | refine Zi ?_ | refine Zh ?_ _)); refine Ym (cs := #[.bool false, .slice none 0 0, .slice none 0 0]) ?_ 0 _ rfl; (with_reducible repeat (first | refine Zg ?_ _ | refine Zi ?_ | refine Zh ?_ _)); exact BK1136.out) Try.underlying50 rfl (by kernel_rfl)) rfl ?_
  exact ⟨_, _, by first | rfl | (simp [Zp, Zo] <;> rfl) | (simp [*, Zp, Zo] <;> rfl), by first | exact Kd.R_nil _ _ _ _ _ | exact Kd.N_nil _ _ _ _ _ | exact Kd.V_nil _ _ _ _ _ | exact Kd.Q_nil _ _ _ _ _ | exact Kd.S_nil _ _ _ _ _, by first | exact Kd.R_nil _ _ _ _ _ | exact Kd.N_nil _ _ _ _ _ | exact Kd.V_nil _ _ _ _ _ | exact Kd.Q_nil _ _ _ _ _ | exact Kd.S_nil _ _ _ _ _, by repeat (first | (with_reducible first | exact HB.out | apply Zb | apply Za | apply Zc | refine Zd ?_ GE1134.out | refine Zd ?_ GE1135.out | refine Zd ?_ GE1136.out) | exact HB.out)⟩
end Go.Proofs.Ytgffficaoioljaa.P
end
section
namespace Go.Proofs.Ytgffficaoioljaa.P
open Go.RowKit Go.Proofs.YtgffficaoioljaaW.PrintWords Go.Proofs.YtgffficaoioljaaW.PrintLast Go.Proofs.YtgffficaoioljaaW.PrintMore
attribute [local go_sem] max2_int min2_int max_two min_two max_three min_three max_four min_four
set_option linter.unusedVariables false
set_option linter.unusedSimpArgs false
end Go.Proofs.Ytgffficaoioljaa.P
end
