import Derived.Test.YtgffficaoioljaaRk11
import Derived.Test.YtgffficaoioljaaRk17
import Derived.Test.YtgffficaoioljaaRk20
import Derived.Test.YtgffficaoioljaaRk12
import Derived.Test.YtgffficaoioljaaRk1
section
namespace Go.Proofs.Ytgffficaoioljaa.P
open Go.RowKit Go.Proofs.YtgffficaoioljaaW.PrintWords Go.Proofs.YtgffficaoioljaaW.PrintLast Go.Proofs.YtgffficaoioljaaW.PrintMore
attribute [local go_sem] max2_int min2_int max_two min_two max_three min_three max_four min_four
set_option linter.unusedVariables false
set_option linter.unusedSimpArgs false
set_option maxHeartbeats 8000000
set_option maxRecDepth 100000
def w2_RatioMakes.f (k : Nat) (a0_0 : Bool) (l0_1 : List Int) (l0_2 : List Int) (a1_0 : Bool) (l1_1 : List Int) (l1_2 : List Int) (a2 : Int) : Option (Bool) := (w2_wakes.f k).bind fun t1268 => (if t1268 = true then ((some (([] : List Int) : List Int)).bind fun y1269 => (if y1269.length + l0_1.length < 35184372088832 then ((some (([] : List Int) : List Int)).bind fun y1275 => (if y1275.length + l1_1.length < 35184372088832 then ((ratio_Make.f k a0_0 (y1269 ++ l0_1) (y1275 ++ l1_1)).bind fun bt1281 => ((r2_Make.f k a0_0 l0_1 l1_1).bind fun bt1290 => ((w2_own.f a0_0 l0_1 l0_2).bind fun bt1299 => ((ratio_Form.f k bt1299.1 bt1299.2.1 bt1299.2.2).bind fun t1306 => ((r2_Form.f k a0_0 l0_1 l0_2).bind fun t1307 => (if (t1306 == t1307) = true then ((w2_own.f a0_0 l0_1 l0_2).bind fun bt1308 => ((w2_own.f a1_0 l1_1 l1_2).bind fun bt1315 => ((ratio_Same.f k bt1308.1 bt1308.2.1 bt1308.2.2 bt1315.1 bt1315.2.1 bt1315.2.2).bind fun t1322 => ((r2_Same.f k a0_0 l0_1 l0_2 a1_0 l1_1 l1_2).bind fun t1323 => (if (t1322 == t1323) = true then ((ratio_Of.f k a2).bind fun bt1324 => ((r2_Of.f k a2).bind fun bt1331 => ((r2_Same.f k bt1324.1 bt1324.2.1 bt1324.2.2 bt1331.1 bt1331.2.1 bt1331.2.2).bind fun t1338 => (if t1338 = true then ((r2_Same.f k bt1281.1 bt1281.2.1 bt1281.2.2.1 bt1290.1 bt1290.2.1 bt1290.2.2.1).bind fun t1339 => (if t1339 = true then (some (bt1281.2.2.2 == bt1290.2.2.2)) else (none))) else (none))))) else (none)))))) else (none))))))) else (none))) else (none))) else (none))
def w2_RatioMakes.T3 : Bool × List (List Nat × List Nat) := (true, [([], []), ([0], [0]), ([], []), ([], []), ([3], [3]), ([2, 4], [2, 4]), ([], []), ([], []), ([7], [7]), ([6, 8, 5], [6, 8]), ([1, 5, 9, 9], [1, 5, 9]), ([10], [10]), ([11], [11]), ([11], [11]), ([], []), ([14, 12, 10, 0, 1, 2, 3, 4, 5, 6, 7, 8, 9, 10, 11, 12, 14], [12, 14]), ([13, 15, 0, 1, 2, 3, 4, 5, 6, 7, 8, 9, 10, 11, 12, 13, 14, 15], [13])])
def w2_RatioMakes.B3 : List Nat := [0, 1, 0, 0, 8, 28, 0, 0, 128, 508, 1023, 2047, 4095, 4095, 0, 24575, 65535]
theorem w2_RatioMakes.tab3 : rtab .any (opsOf Try.f12 3) = w2_RatioMakes.T3 := by kernel_rfl
theorem w2_RatioMakes.bits3 : waitsOk w2_RatioMakes.T3.2 w2_RatioMakes.B3 = true := by kernel_rfl
def w2_RatioMakes.T5 : Bool × List (List Nat × List Nat) := (true, [([], []), ([0], [0]), ([1, 1], [1]), ([], []), ([3, 2], [3]), ([2, 4], [2, 4]), ([5, 4], [5]), ([6], [6]), ([7, 6, 6], [6, 7]), ([6], [6]), ([9, 8, 6], [6, 9]), ([8, 10, 10, 6], [6, 8, 10]), ([6], [6]), ([6], [6]), ([12, 13, 11, 6], [6, 12, 13]), ([11, 14, 6], [6, 11, 14]), ([6, 15], [6, 15]), ([16, 14], [16]), ([17], [17]), ([18, 17, 17], [17, 18]), ([17], [17]), ([20, 19, 17], [17, 20]), ([19, 21, 21, 17], [17, 19, 21]), ([17, 22], [17, 22]), ([23, 22], [23]), ([24], [24]), ([24], [24]), ([25, 26, 24, 24], [24, 25, 26]), ([24, 27], [24, 27]), ([28, 27], [28]), ([29], [29]), ([29], [29]), ([30, 31, 29], [29, 30, 31]), ([29, 32], [29, 32]), ([33, 29, 0, 1, 2, 3, 4, 5, 6, 7, 8, 9, 10, 11, 12, 13, 14, 15, 16, 17, 18, 19, 20, 21, 22, 23, 24, 25, 26, 27, 28, 29, 30, 31, 32, 33], [33])])
def w2_RatioMakes.B5 : List Nat := [0, 1, 3, 0, 15, 31, 63, 127, 255, 127, 1023, 2047, 127, 127, 16383, 32767, 65535, 131071, 262143, 524287, 262143, 2097151, 4194303, 8388607, 16777215, 33554431, 33554431, 134217727, 268435455, 536870911, 1073741823, 1073741823, 4294967295, 8589934591, 17179869183]
theorem w2_RatioMakes.tab5 : rtab .any (opsOf Try.f12 5) = w2_RatioMakes.T5 := by kernel_rfl
theorem w2_RatioMakes.bits5 : waitsOk w2_RatioMakes.T5.2 w2_RatioMakes.B5 = true := by kernel_rfl
theorem w2_RatioMakes.calls (k : Nat) (a0_0 : Bool) (A0_1 : Option Addr) (c0_1 : Nat) (l0_1 : List Int) (A0_2 : Option Addr) (c0_2 : Nat) (l0_2 : List Int) (a1_0 : Bool) (A1_1 : Option Addr) (c1_1 : Nat) (l1_1 : List Int) (A1_2 : Option Addr) (c1_2 : Nat) (l1_2 : List Int) (a2 : Int) (r : Bool) (w : World) (hr0_1 : Kd.C (Kd.int .u32) w A0_1 l0_1.length l0_1) (hc0_1 : l0_1.length ≤ c0_1) (hr0_2 : Kd.C (Kd.int .u32) w A0_2 l0_2.length l0_2) (hc0_2 : l0_2.length ≤ c0_2) (hr1_1 : Kd.C (Kd.int .u32) w A1_1 l1_1.length l1_1) (hc1_1 : l1_1.length ≤ c1_1) (hr1_2 : Kd.C (Kd.int .u32) w A1_2 l1_2.length l1_2) (hc1_2 : l1_2.length ≤ c1_2) (h : w2_RatioMakes.f k a0_0 l0_1 l0_2 a1_0 l1_1 l1_2 a2 = some r) :
  Calls Try.prog 12 #[.agg #[.bool a0_0, .slice A0_1 l0_1.length c0_1, .slice A0_2 l0_2.length c0_2], .agg #[.bool a1_0, .slice A1_1 l1_1.length c1_1, .slice A1_2 l1_2.length c1_2], .int .i64 a2] w fun e w' => e = .returned (.bool r) ∧ Below w.heap.size w w' := by
 have hu50 := Try.underlying50
 have HR0_1 := Yt.mk hr0_1
 have HC0_1 := Yt.mk hc0_1
 clear hr0_1 hc0_1
 have HR0_2 := Yt.mk hr0_2
 have HC0_2 := Yt.mk hc0_2
 clear hr0_2 hc0_2
 have HR1_1 := Yt.mk hr1_1
 have HC1_1 := Yt.mk hc1_1
 clear hr1_1 hc1_1
 have HR1_2 := Yt.mk hr1_2
 have HC1_2 := Yt.mk hc1_2
 clear hr1_2 hc1_2
 have HB := Yt.mk (Below.refl w.heap.size w)
 unfold w2_RatioMakes.f at h
 have H := h
 clear h
 replace H := Option.bind_eq_some_iff.mp H
 obtain ⟨t1268, A40, H⟩ := H
 try dsimp only at H
 have A4 := Yt.mk A40
 clear A40
 by_cases c5 : t1268 = true
 rotate_left
 ·replace c5 := Bool.eq_false_iff.mpr c5
  subst c5
  rw [if_neg (show ¬ (false = true) by decide)] at H
  exact absurd H (by simp)
 subst c5
 rw [if_pos rfl] at H
 obtain ⟨y1269, hy1269⟩ : ∃ y_ : List Int, y_ = (([] : List Int)) := ⟨_, rfl⟩
 replace H : (if y1269.length + l0_1.length < 35184372088832 then ((some (([] : List Int) : List Int)).bind fun y1275 => (if y1275.length + l1_1.length < 35184372088832 then ((ratio_Make.f k a0_0 (y1269 ++ l0_1) (y1275 ++ l1_1)).bind fun bt1281 => ((r2_Make.f k a0_0 l0_1 l1_1).bind fun bt1290 => ((w2_own.f a0_0 l0_1 l0_2).bind fun bt1299 => ((ratio_Form.f k bt1299.1 bt1299.2.1 bt1299.2.2).bind fun t1306 => ((r2_Form.f k a0_0 l0_1 l0_2).bind fun t1307 => (if (t1306 == t1307) = true then ((w2_own.f a0_0 l0_1 l0_2).bind fun bt1308 => ((w2_own.f a1_0 l1_1 l1_2).bind fun bt1315 => ((ratio_Same.f k bt1308.1 bt1308.2.1 bt1308.2.2 bt1315.1 bt1315.2.1 bt1315.2.2).bind fun t1322 => ((r2_Same.f k a0_0 l0_1 l0_2 a1_0 l1_1 l1_2).bind fun t1323 => (if (t1322 == t1323) = true then ((ratio_Of.f k a2).bind fun bt1324 => ((r2_Of.f k a2).bind fun bt1331 => ((r2_Same.f k bt1324.1 bt1324.2.1 bt1324.2.2 bt1331.1 bt1331.2.1 bt1331.2.2).bind fun t1338 => (if t1338 = true then ((r2_Same.f k bt1281.1 bt1281.2.1 bt1281.2.2.1 bt1290.1 bt1290.2.1 bt1290.2.2.1).bind fun t1339 => (if t1339 = true then (some (bt1281.2.2.2 == bt1290.2.2.2)) else (none))) else (none))))) else (none)))))) else (none))))))) else (none))) else (none)) = some r := Qh hy1269 H
 have Ny1269 := Yt.mk hy1269
 clear hy1269
 by_cases c6 : y1269.length + l0_1.length < 35184372088832
 rotate_left
 ·rw [if_neg c6] at H
  exact absurd H (by simp)
 rw [if_pos c6] at H
 have LMc6 := Yt.mk c6
 clear c6
 obtain ⟨y1272, hy1272⟩ : ∃ y_ : List Int, y_ = (y1269 ++ l0_1) := ⟨_, rfl⟩
 replace H : ((some (([] : List Int) : List Int)).bind fun y1275 => (if y1275.length + l1_1.length < 35184372088832 then ((ratio_Make.f k a0_0 y1272 (y1275 ++ l1_1)).bind fun bt1281 => ((r2_Make.f k a0_0 l0_1 l1_1).bind fun bt1290 => ((w2_own.f a0_0 l0_1 l0_2).bind fun bt1299 => ((ratio_Form.f k bt1299.1 bt1299.2.1 bt1299.2.2).bind fun t1306 => ((r2_Form.f k a0_0 l0_1 l0_2).bind fun t1307 => (if (t1306 == t1307) = true then ((w2_own.f a0_0 l0_1 l0_2).bind fun bt1308 => ((w2_own.f a1_0 l1_1 l1_2).bind fun bt1315 => ((ratio_Same.f k bt1308.1 bt1308.2.1 bt1308.2.2 bt1315.1 bt1315.2.1 bt1315.2.2).bind fun t1322 => ((r2_Same.f k a0_0 l0_1 l0_2 a1_0 l1_1 l1_2).bind fun t1323 => (if (t1322 == t1323) = true then ((ratio_Of.f k a2).bind fun bt1324 => ((r2_Of.f k a2).bind fun bt1331 => ((r2_Same.f k bt1324.1 bt1324.2.1 bt1324.2.2 bt1331.1 bt1331.2.1 bt1331.2.2).bind fun t1338 => (if t1338 = true then ((r2_Same.f k bt1281.1 bt1281.2.1 bt1281.2.2.1 bt1290.1 bt1290.2.1 bt1290.2.2.1).bind fun t1339 => (if t1339 = true then (some (bt1281.2.2.2 == bt1290.2.2.2)) else (none))) else (none))))) else (none)))))) else (none))))))) else (none))) = some r := Qh hy1272 H
 have Ny1272 := Yt.mk hy1272
 clear hy1272
 obtain ⟨y1275, hy1275⟩ : ∃ y_ : List Int, y_ = (([] : List Int)) := ⟨_, rfl⟩
 replace H : (if y1275.length + l1_1.length < 35184372088832 then ((ratio_Make.f k a0_0 y1272 (y1275 ++ l1_1)).bind fun bt1281 => ((r2_Make.f k a0_0 l0_1 l1_1).bind fun bt1290 => ((w2_own.f a0_0 l0_1 l0_2).bind fun bt1299 => ((ratio_Form.f k bt1299.1 bt1299.2.1 bt1299.2.2).bind fun t1306 => ((r2_Form.f k a0_0 l0_1 l0_2).bind fun t1307 => (if (t1306 == t1307) = true then ((w2_own.f a0_0 l0_1 l0_2).bind fun bt1308 => ((w2_own.f a1_0 l1_1 l1_2).bind fun bt1315 => ((ratio_Same.f k bt1308.1 bt1308.2.1 bt1308.2.2 bt1315.1 bt1315.2.1 bt1315.2.2).bind fun t1322 => ((r2_Same.f k a0_0 l0_1 l0_2 a1_0 l1_1 l1_2).bind fun t1323 => (if (t1322 == t1323) = true then ((ratio_Of.f k a2).bind fun bt1324 => ((r2_Of.f k a2).bind fun bt1331 => ((r2_Same.f k bt1324.1 bt1324.2.1 bt1324.2.2 bt1331.1 bt1331.2.1 bt1331.2.2).bind fun t1338 => (if t1338 = true then ((r2_Same.f k bt1281.1 bt1281.2.1 bt1281.2.2.1 bt1290.1 bt1290.2.1 bt1290.2.2.1).bind fun t1339 => (if t1339 = true then (some (bt1281.2.2.2 == bt1290.2.2.2)) else (none))) else (none))))) else (none)))))) else (none))))))) else (none)) = some r := Qh hy1275 H
 have Ny1275 := Yt.mk hy1275
 clear hy1275
 by_cases c7 : y1275.length + l1_1.length < 35184372088832
 rotate_left
 ·rw [if_neg c7] at H
  exact absurd H (by simp)
 rw [if_pos c7] at H
 have LMc7 := Yt.mk c7
 clear c7
 obtain ⟨y1278, hy1278⟩ : ∃ y_ : List Int, y_ = (y1275 ++ l1_1) := ⟨_, rfl⟩
 replace H : ((ratio_Make.f k a0_0 y1272 y1278).bind fun bt1281 => ((r2_Make.f k a0_0 l0_1 l1_1).bind fun bt1290 => ((w2_own.f a0_0 l0_1 l0_2).bind fun bt1299 => ((ratio_Form.f k bt1299.1 bt1299.2.1 bt1299.2.2).bind fun t1306 => ((r2_Form.f k a0_0 l0_1 l0_2).bind fun t1307 => (if (t1306 == t1307) = true then ((w2_own.f a0_0 l0_1 l0_2).bind fun bt1308 => ((w2_own.f a1_0 l1_1 l1_2).bind fun bt1315 => ((ratio_Same.f k bt1308.1 bt1308.2.1 bt1308.2.2 bt1315.1 bt1315.2.1 bt1315.2.2).bind fun t1322 => ((r2_Same.f k a0_0 l0_1 l0_2 a1_0 l1_1 l1_2).bind fun t1323 => (if (t1322 == t1323) = true then ((ratio_Of.f k a2).bind fun bt1324 => ((r2_Of.f k a2).bind fun bt1331 => ((r2_Same.f k bt1324.1 bt1324.2.1 bt1324.2.2 bt1331.1 bt1331.2.1 bt1331.2.2).bind fun t1338 => (if t1338 = true then ((r2_Same.f k bt1281.1 bt1281.2.1 bt1281.2.2.1 bt1290.1 bt1290.2.1 bt1290.2.2.1).bind fun t1339 => (if t1339 = true then (some (bt1281.2.2.2 == bt1290.2.2.2)) else (none))) else (none))))) else (none)))))) else (none))))))) = some r := Qh hy1278 H
 have Ny1278 := Yt.mk hy1278
 clear hy1278
 replace H := Option.bind_eq_some_iff.mp H
 obtain ⟨⟨t1281, t1282, t1285, t1288⟩, A80, H⟩ := H
 try dsimp only at H
 have A8 := Yt.mk A80
 clear A80
 replace H := Option.bind_eq_some_iff.mp H
 obtain ⟨⟨t1290, t1291, t1294, t1297⟩, A90, H⟩ := H
 try dsimp only at H
 have A9 := Yt.mk A90
 clear A90
 replace H := Option.bind_eq_some_iff.mp H
 obtain ⟨⟨t1299, t1300, t1303⟩, A100, H⟩ := H
 try dsimp only at H
 have A10 := Yt.mk A100
 clear A100
 replace H := Option.bind_eq_some_iff.mp H
 obtain ⟨t1306, A110, H⟩ := H
 try dsimp only at H
 have A11 := Yt.mk A110
 clear A110
 replace H := Option.bind_eq_some_iff.mp H
 obtain ⟨t1307, A120, H⟩ := H
 try dsimp only at H
 have A12 := Yt.mk A120
 clear A120
 by_cases c13 : (t1306 == t1307) = true
 rotate_left
 ·rw [if_neg c13] at H
  have c13b0 : (t1306 == t1307) = false := by simpa using c13
  (try (have c13b1 : decide (t1306 = t1307) = false := by simpa using c13))
  (try (have c13b2 : (t1306 == t1307) = false := by simpa using c13))
  (try (have c13b3 : ¬ (t1306 = t1307) := by simpa using c13))
  clear c13
  exact absurd H (by simp)
 rw [if_pos c13] at H
 have c13b0 : (t1306 == t1307) = true := c13
 (try (have c13b1 : decide (t1306 = t1307) = true := by simpa using c13))
 (try (have c13b2 : (t1306 == t1307) = true := by simpa using c13))
 clear c13
 replace H := Option.bind_eq_some_iff.mp H
 obtain ⟨⟨t1308, t1309, t1312⟩, A140, H⟩ := H
 try dsimp only at H
 have A14 := Yt.mk A140
 clear A140
 replace H := Option.bind_eq_some_iff.mp H
 obtain ⟨⟨t1315, t1316, t1319⟩, A150, H⟩ := H
 try dsimp only at H
 have A15 := Yt.mk A150
 clear A150
 replace H := Option.bind_eq_some_iff.mp H
 obtain ⟨t1322, A160, H⟩ := H
 try dsimp only at H
 have A16 := Yt.mk A160
 clear A160
 replace H := Option.bind_eq_some_iff.mp H
 obtain ⟨t1323, A170, H⟩ := H
 try dsimp only at H
 have A17 := Yt.mk A170
 clear A170
 by_cases c18 : (t1322 == t1323) = true
 rotate_left
 ·rw [if_neg c18] at H
  have c18b0 : (t1322 == t1323) = false := by simpa using c18
  (try (have c18b1 : decide (t1322 = t1323) = false := by simpa using c18))
  (try (have c18b2 : (t1322 == t1323) = false := by simpa using c18))
  (try (have c18b3 : ¬ (t1322 = t1323) := by simpa using c18))
  clear c18
  exact absurd H (by simp)
 rw [if_pos c18] at H
 have c18b0 : (t1322 == t1323) = true := c18
 (try (have c18b1 : decide (t1322 = t1323) = true := by simpa using c18))
 (try (have c18b2 : (t1322 == t1323) = true := by simpa using c18))
 clear c18
 replace H := Option.bind_eq_some_iff.mp H
 obtain ⟨⟨t1324, t1325, t1328⟩, A190, H⟩ := H
 try dsimp only at H
 have A19 := Yt.mk A190
 clear A190
 replace H := Option.bind_eq_some_iff.mp H
 obtain ⟨⟨t1331, t1332, t1335⟩, A200, H⟩ := H
 try dsimp only at H
 have A20 := Yt.mk A200
 clear A200
 replace H := Option.bind_eq_some_iff.mp H
 obtain ⟨t1338, A210, H⟩ := H
 try dsimp only at H
 have A21 := Yt.mk A210
 clear A210
 by_cases c22 : t1338 = true
 rotate_left
 ·replace c22 := Bool.eq_false_iff.mpr c22
  subst c22
  rw [if_neg (show ¬ (false = true) by decide)] at H
  exact absurd H (by simp)
 subst c22
 rw [if_pos rfl] at H
 replace H := Option.bind_eq_some_iff.mp H
 obtain ⟨t1339, A230, H⟩ := H
 try dsimp only at H
 have A23 := Yt.mk A230
 clear A230
 by_cases c24 : t1339 = true
 rotate_left
 ·replace c24 := Bool.eq_false_iff.mpr c24
  subst c24
  rw [if_neg (show ¬ (false = true) by decide)] at H
  exact absurd H (by simp)
 subst c24
 rw [if_pos rfl] at H
 obtain rfl := Option.some.inj H
 go_enter Try.func12, Try.ntmps12
 try go_wp2_with (first | ((with_reducible refine Yk (N := 3) rfl ?_); refine Yo ?hg (N := 3) ?hd (cs := #[.bool a0_0, .slice A0_1 l0_1.length c0_1, .slice A0_2 l0_2.length c0_2]) (t := 50) ?hr ?_; (case hd => rfl); (case hg => rfl); (case hr => exact Qa9); intro gb1266 hg w25 hbox hb; have BK1266 := Yt.mk (hbox); have GW1266 := Yt.mk ((by rw [hg]; exact (Zk (Qa0)) : w.heap.size ≤ gb1266)); have GE1266 := Yt.mk ((by rw [hg]; exact (Zk (Qa0)) : w.heap.size ≤ gb1266)); replace HB := Yt.mk (Zm (Qa0) hb); clear hb hbox hg) | ((with_reducible refine Yk (N := 4) rfl ?_); refine Yo ?hg (N := 4) ?hd (cs := #[.bool a1_0, .slice A1_1 l1_1.length c1_1, .slice A1_2 l1_2.length c1_2]) (t := 50) ?hr ?_; (case hd => rfl); (case hg => rfl); (case hr => exact Qa9); intro gb1267 hg w26 hbox hb; have BK1267 := Yt.mk (hbox); have GW1267 := Yt.mk ((by rw [hg]; exact (Zk (Qa0)) : w.heap.size ≤ gb1267)); have GE1267 := Yt.mk ((by rw [hg]; exact (Zk (Qa0)) : w.heap.size ≤ gb1267)); replace HB := Yt.mk (Zm (Qa0) hb); have NB1266_1267 := Yt.mk ((by rw [hg]; exact Nat.ne_of_lt (blk_lt (g := gb1266) (o := .cells #[.bool a0_0, .slice A0_1 l0_1.length c0_1, .slice A0_2 l0_2.length c0_2] 50 (0, 0)) (Qr12 BK1266.out)) : gb1266 ≠ gb1267)); have NB1267_1266 := Yt.mk ((by rw [hg]; exact Nat.ne_of_gt (blk_lt (g := gb1266) (o := .cells #[.bool a0_0, .slice A0_1 l0_1.length c0_1, .slice A0_2 l0_2.length c0_2] 50 (0, 0)) (Qr12 BK1266.out)) : gb1267 ≠ gb1266)); replace BK1266 := Yt.mk (Zq (g := gb1266) (o := .cells #[.bool a0_0, .slice A0_1 l0_1.length c0_1, .slice A0_2 l0_2.length c0_2] 50 (0, 0)) (Qr12 BK1266.out) hb); clear hb hbox hg) | ((with_reducible refine Zr (f := 47) rfl ?_); refine Yg (some 11) rfl rfl Try.func47 Qa8 rfl #[] rfl Qa2 ?_; (with_reducible refine (w2_wakes.calls k  true _ A4.out).mono ?_); rintro e w27 ⟨rfl, hb⟩; refine ⟨_, rfl, ?_⟩; replace BK1266 := Yt.mk (Zq (g := gb1266) (o := .cells #[.bool a0_0, .slice A0_1 l0_1.length c0_1, .slice A0_2 l0_2.length c0_2] 50 (0, 0)) (Qr12 BK1266.out) hb); replace BK1267 := Yt.mk (Zq (g := gb1267) (o := .cells #[.bool a1_0, .slice A1_1 l1_1.length c1_1, .slice A1_2 l1_2.length c1_2] 50 (0, 0)) (Qr12 BK1267.out) hb); replace HB := Yt.mk (Zm (Qa0) hb); (try clear hb)))
 replace BK1266 := Yt.mk (Zi BK1266.out)
 replace BK1267 := Yt.mk (Zi BK1267.out)
 replace HB := Yt.mk (Zc HB.out)
 refine start_ (n := 17) (S := fun w' => w'.cell? ⟨gb1266, 0, none⟩ = some (.bool a0_0) ∧ w'.cell? ⟨gb1266, 1, none⟩ = some (.slice A0_1 l0_1.length c0_1) ∧ w'.cell? ⟨gb1266, 2, none⟩ = some (.slice A0_2 l0_2.length c0_2) ∧ w'.cell? ⟨gb1267, 0, none⟩ = some (.bool a1_0) ∧ w'.cell? ⟨gb1267, 1, none⟩ = some (.slice A1_1 l1_1.length c1_1) ∧ w'.cell? ⟨gb1267, 2, none⟩ = some (.slice A1_2 l1_2.length c1_2)) (ds := []) #[false, false, false, false, false, false, false, false, false, false, false, false, false, false, false, false, false] Qa8 rfl rfl ⟨(Zl BK1266.out 0).trans rfl, (Zl BK1266.out 1).trans rfl, (Zl BK1266.out 2).trans rfl, (Zl BK1267.out 0).trans rfl, (Zl BK1267.out 1).trans rfl, (Zl BK1267.out 2).trans rfl⟩ (fun hHeld => ?_); refine with_tabW w2_RatioMakes.tab3 w2_RatioMakes.bits3 (fun HT_ HW_ => ?_)
 generalize w27.drew = w28 at BK1266 BK1267 HB hHeld ⊢
 refine pure_ (i := 0) (N := some 14) (v := ?_) (a' := ?_) #[true, false, false, false, false, false, false, false, false, false, false, false, false, false, false, false, false] rfl rfl (any_of HT_.out Qa8) (fun _ _ _ h => h) (Or.inl ⟨by rfl, ?_⟩) ?_ ?_
 rotate_left
 ·intro w'
  go_simp
  with_reducible rfl
 rotate_left
 ·simp only [Act.put, List.setIfInBounds_toArray, List.set_cons_zero, List.set_cons_succ, Yi, Yj]
  rfl
 refine pure_ (i := 3) (N := some 17) (v := ?_) (a' := ?_) #[true, false, false, true, false, false, false, false, false, false, false, false, false, false, false, false, false] rfl rfl (any_of HT_.out Qa8) (fun _ _ _ h => h) (Or.inl ⟨by rfl, ?_⟩) ?_ ?_
 rotate_left
 ·intro w'
  go_simp
  with_reducible rfl
 rotate_left
 ·simp only [Act.put, List.setIfInBounds_toArray, List.set_cons_zero, List.set_cons_succ, Yi, Yj]
  rfl
 refine pure_ (i := 7) (N := some 21) (v := ?_) (a' := ?_) #[true, false, false, true, false, false, false, true, false, false, false, false, false, false, false, false, false] rfl rfl (any_of HT_.out Qa8) (fun _ _ _ h => h) (Or.inl ⟨by rfl, ?_⟩) ?_ ?_
 rotate_left
 ·intro w'
  go_simp
  with_reducible rfl
 rotate_left
 ·simp only [Act.put, List.setIfInBounds_toArray, List.set_cons_zero, List.set_cons_succ, Yi, Yj]
  rfl
 refine take_ (i := 1) (N := some 15) (v := ?_) (a' := ?_) #[true, true, false, true, false, false, false, true, false, false, false, false, false, false, false, false, false] rfl rfl (take_ofW HT_.out HW_.out Qa8) (fun _ _ _ h => h) (Or.inl ⟨by rfl, ?_⟩) hHeld ?_ ?_
 rotate_left
 ·rintro w' ⟨s0, s1, s2, s3, s4, s5⟩
  go_simp
  with_reducible rfl
 rotate_left
 ·simp only [Act.put, List.setIfInBounds_toArray, List.set_cons_zero, List.set_cons_succ, Yi, Yj]
  rfl
 refine take_ (i := 4) (N := some 18) (v := ?_) (a' := ?_) #[true, true, false, true, true, false, false, true, false, false, false, false, false, false, false, false, false] rfl rfl (take_ofW HT_.out HW_.out Qa8) (fun _ _ _ h => h) (Or.inl ⟨by rfl, ?_⟩) hHeld ?_ ?_
 rotate_left
 ·rintro w' ⟨s0, s1, s2, s3, s4, s5⟩
  go_simp
  with_reducible rfl
 rotate_left
 ·simp only [Act.put, List.setIfInBounds_toArray, List.set_cons_zero, List.set_cons_succ, Yi, Yj]
  rfl
 refine take_ (i := 8) (N := some 22) (v := ?_) (a' := ?_) #[true, true, false, true, true, false, false, true, true, false, false, false, false, false, false, false, false] rfl rfl (take_ofW HT_.out HW_.out Qa8) (fun _ _ _ h => h) (Or.inl ⟨by rfl, ?_⟩) hHeld ?_ ?_
 rotate_left
 ·rintro w' ⟨s0, s1, s2, s3, s4, s5⟩
  go_simp
  with_reducible rfl
 rotate_left
 ·simp only [Act.put, List.setIfInBounds_toArray, List.set_cons_zero, List.set_cons_succ, Yi, Yj]
  rfl
 refine join_ (σ := Value × Value × Value × Value × Value × Value × Nat) 2 #[true, true, true, true, true, true, true, true, true, true, true, true, true, true, true, false, false] (fun s_ => [(16, s_.1), (19, s_.2.1), (20, s_.2.2.1), (23, s_.2.2.2.1), (24, .tuple #[.agg #[.bool t1281, s_.2.2.2.2.1, s_.2.2.2.2.2.1], .int .i64 t1288]), (7, .pointer (some ⟨s_.2.2.2.2.2.2, 0, none⟩)), (13, .tuple #[.agg #[.bool t1281, s_.2.2.2.2.1, s_.2.2.2.2.2.1], .int .i64 t1288]), (25, .agg #[.bool t1281, s_.2.2.2.2.1, s_.2.2.2.2.2.1]), (26, .int .i64 t1288)]) (fun s_ w' => (w'.cell? ⟨gb1266, 0, none⟩ = some (.bool a0_0) ∧ w'.cell? ⟨gb1266, 1, none⟩ = some (.slice A0_1 l0_1.length c0_1) ∧ w'.cell? ⟨gb1266, 2, none⟩ = some (.slice A0_2 l0_2.length c0_2) ∧ w'.cell? ⟨gb1267, 0, none⟩ = some (.bool a1_0) ∧ w'.cell? ⟨gb1267, 1, none⟩ = some (.slice A1_1 l1_1.length c1_1) ∧ w'.cell? ⟨gb1267, 2, none⟩ = some (.slice A1_2 l1_2.length c1_2)) ∧ (Kd.R (Kd.int .u32) 47 w' w.heap.size (fun k_ => some k_ ≠ (s_.2.2.2.1 : Value).ownBlock ∧ some k_ ≠ (s_.2.2.2.2.1 : Value).ownBlock ∧ some k_ ≠ (s_.2.2.2.2.2.1 : Value).ownBlock) s_.2.1 y1272) ∧ (Kd.R (Kd.int .u32) 47 w' w.heap.size (fun k_ => some k_ ≠ (s_.2.1 : Value).ownBlock ∧ some k_ ≠ (s_.2.2.2.2.1 : Value).ownBlock ∧ some k_ ≠ (s_.2.2.2.2.2.1 : Value).ownBlock) s_.2.2.2.1 y1278) ∧ (Kd.R (Kd.int .u32) 47 w' w.heap.size (fun k_ => some k_ ≠ (s_.2.1 : Value).ownBlock ∧ some k_ ≠ (s_.2.2.2.1 : Value).ownBlock ∧ some k_ ≠ (s_.2.2.2.2.2.1 : Value).ownBlock) s_.2.2.2.2.1 t1282) ∧ (Kd.R (Kd.int .u32) 47 w' w.heap.size (fun k_ => some k_ ≠ (s_.2.1 : Value).ownBlock ∧ some k_ ≠ (s_.2.2.2.1 : Value).ownBlock ∧ some k_ ≠ (s_.2.2.2.2.1 : Value).ownBlock) s_.2.2.2.2.2.1 t1285) ∧ (w'.heap[gb1266]? = some (.cells #[.bool a0_0, .slice A0_1 l0_1.length c0_1, .slice A0_2 l0_2.length c0_2] 50 (0, 0))) ∧ (w'.heap[gb1267]? = some (.cells #[.bool a1_0, .slice A1_1 l1_1.length c1_1, .slice A1_2 l1_2.length c1_2] 50 (0, 0))) ∧ (w'.heap[s_.2.2.2.2.2.2]? = some (.cells #[.bool false, .slice none 0 0, .slice none 0 0] 50 (0, 0))) ∧ (w.heap.size ≤ s_.2.2.2.2.2.2) ∧ (w.heap.size ≤ s_.2.2.2.2.2.2) ∧ (gb1266 ≠ s_.2.2.2.2.2.2) ∧ (s_.2.2.2.2.2.2 ≠ gb1266) ∧ (gb1267 ≠ s_.2.2.2.2.2.2) ∧ (s_.2.2.2.2.2.2 ≠ gb1267) ∧ (Below w.heap.size w w')) ?_ ?_
 rotate_left
 ·intro hJ2_5_6_9_10_14
  refine join_ (σ := Value × Value × Value × Value × Value × Value) 3 #[true, true, true, true, true, true, true, true, true, true, true, true, true, true, false, false, false] (fun s_ => [(16, s_.1), (19, s_.2.1), (20, s_.2.2.1), (23, s_.2.2.2.1), (24, .tuple #[.agg #[.bool t1281, s_.2.2.2.2.1, s_.2.2.2.2.2], .int .i64 t1288]), (13, .tuple #[.agg #[.bool t1281, s_.2.2.2.2.1, s_.2.2.2.2.2], .int .i64 t1288]), (25, .agg #[.bool t1281, s_.2.2.2.2.1, s_.2.2.2.2.2]), (26, .int .i64 t1288)]) (fun s_ w' => (w'.cell? ⟨gb1266, 0, none⟩ = some (.bool a0_0) ∧ w'.cell? ⟨gb1266, 1, none⟩ = some (.slice A0_1 l0_1.length c0_1) ∧ w'.cell? ⟨gb1266, 2, none⟩ = some (.slice A0_2 l0_2.length c0_2) ∧ w'.cell? ⟨gb1267, 0, none⟩ = some (.bool a1_0) ∧ w'.cell? ⟨gb1267, 1, none⟩ = some (.slice A1_1 l1_1.length c1_1) ∧ w'.cell? ⟨gb1267, 2, none⟩ = some (.slice A1_2 l1_2.length c1_2)) ∧ (Kd.R (Kd.int .u32) 47 w' w.heap.size (fun k_ => some k_ ≠ (s_.2.2.2.1 : Value).ownBlock ∧ some k_ ≠ (s_.2.2.2.2.1 : Value).ownBlock ∧ some k_ ≠ (s_.2.2.2.2.2 : Value).ownBlock) s_.2.1 y1272) ∧ (Kd.R (Kd.int .u32) 47 w' w.heap.size (fun k_ => some k_ ≠ (s_.2.1 : Value).ownBlock ∧ some k_ ≠ (s_.2.2.2.2.1 : Value).ownBlock ∧ some k_ ≠ (s_.2.2.2.2.2 : Value).ownBlock) s_.2.2.2.1 y1278) ∧ (Kd.R (Kd.int .u32) 47 w' w.heap.size (fun k_ => some k_ ≠ (s_.2.1 : Value).ownBlock ∧ some k_ ≠ (s_.2.2.2.1 : Value).ownBlock ∧ some k_ ≠ (s_.2.2.2.2.2 : Value).ownBlock) s_.2.2.2.2.1 t1282) ∧ (Kd.R (Kd.int .u32) 47 w' w.heap.size (fun k_ => some k_ ≠ (s_.2.1 : Value).ownBlock ∧ some k_ ≠ (s_.2.2.2.1 : Value).ownBlock ∧ some k_ ≠ (s_.2.2.2.2.1 : Value).ownBlock) s_.2.2.2.2.2 t1285) ∧ (w'.heap[gb1266]? = some (.cells #[.bool a0_0, .slice A0_1 l0_1.length c0_1, .slice A0_2 l0_2.length c0_2] 50 (0, 0))) ∧ (w'.heap[gb1267]? = some (.cells #[.bool a1_0, .slice A1_1 l1_1.length c1_1, .slice A1_2 l1_2.length c1_2] 50 (0, 0))) ∧ (Below w.heap.size w w')) ?_ ?_
  ·skip
   rintro ⟨v1270, v1273, v1276, v1279, v1283, v1286⟩ w38 ⟨hS_, h0_, h1_, h2_, h3_, h4_, h5_, h6_⟩
   have HO1274 : Yt (Kd.R (Kd.int .u32) 47 w38 w.heap.size (fun k_ => some k_ ≠ (v1279 : Value).ownBlock ∧ some k_ ≠ (v1283 : Value).ownBlock ∧ some k_ ≠ (v1286 : Value).ownBlock) v1273 y1272) := ⟨h0_⟩
   have HO1280 : Yt (Kd.R (Kd.int .u32) 47 w38 w.heap.size (fun k_ => some k_ ≠ (v1273 : Value).ownBlock ∧ some k_ ≠ (v1283 : Value).ownBlock ∧ some k_ ≠ (v1286 : Value).ownBlock) v1279 y1278) := ⟨h1_⟩
   have HO1284 : Yt (Kd.R (Kd.int .u32) 47 w38 w.heap.size (fun k_ => some k_ ≠ (v1273 : Value).ownBlock ∧ some k_ ≠ (v1279 : Value).ownBlock ∧ some k_ ≠ (v1286 : Value).ownBlock) v1283 t1282) := ⟨h2_⟩
   have HO1287 : Yt (Kd.R (Kd.int .u32) 47 w38 w.heap.size (fun k_ => some k_ ≠ (v1273 : Value).ownBlock ∧ some k_ ≠ (v1279 : Value).ownBlock ∧ some k_ ≠ (v1283 : Value).ownBlock) v1286 t1285) := ⟨h3_⟩
   replace BK1266 : Yt (w38.heap[gb1266]? = some (.cells #[.bool a0_0, .slice A0_1 l0_1.length c0_1, .slice A0_2 l0_2.length c0_2] 50 (0, 0))) := ⟨h4_⟩
   replace BK1267 : Yt (w38.heap[gb1267]? = some (.cells #[.bool a1_0, .slice A1_1 l1_1.length c1_1, .slice A1_2 l1_2.length c1_2] 50 (0, 0))) := ⟨h5_⟩
   replace HB : Yt (Below w.heap.size w w38) := ⟨h6_⟩
   clear h0_ h1_ h2_ h3_ h4_ h5_ h6_
   have hHeld : w38.cell? ⟨gb1266, 0, none⟩ = some (.bool a0_0) ∧ w38.cell? ⟨gb1266, 1, none⟩ = some (.slice A0_1 l0_1.length c0_1) ∧ w38.cell? ⟨gb1266, 2, none⟩ = some (.slice A0_2 l0_2.length c0_2) ∧ w38.cell? ⟨gb1267, 0, none⟩ = some (.bool a1_0) ∧ w38.cell? ⟨gb1267, 1, none⟩ = some (.slice A1_1 l1_1.length c1_1) ∧ w38.cell? ⟨gb1267, 2, none⟩ = some (.slice A1_2 l1_2.length c1_2) := hS_
   refine norm_ (a' := ?_) ?_ ?_
   rotate_left
   ·simp only [putAll, Act.put, List.setIfInBounds_toArray, List.set_cons_zero, List.set_cons_succ]
    rfl
   refine one_ (i := 14) (N := some 7) #[true, true, true, true, true, true, true, true, true, true, true, true, true, true, true, false, false] rfl rfl (one_of HT_.out Qa8) (by decide) (fun K hK => ?_)
   refine box_step ?hg (N := 7) ?hd (cs := #[.bool false, .slice none 0 0, .slice none 0 0]) (t := 50) ?hr ?_; (case hd => rfl); (case hg => rfl); (case hr => exact Qa9)
   intro gb1289 hg w39 hbox hb
   replace HO1274 := Yt.mk (Kd.Yd (Qr1 HO1274.out) hb)
   replace HO1280 := Yt.mk (Kd.Yd (Qr1 HO1280.out) hb)
   replace HO1284 := Yt.mk (Kd.Yd (Qr1 HO1284.out) hb)
   replace HO1287 := Yt.mk (Kd.Yd (Qr1 HO1287.out) hb)
   have BK1289 := Yt.mk (hbox)
   have GW1289 := Yt.mk ((by rw [hg]; exact (Zk (Qa0)) : w.heap.size ≤ gb1289))
   have GE1289 := Yt.mk ((by rw [hg]; exact (Zk (Qa0)) : w.heap.size ≤ gb1289))
   replace HB := Yt.mk (Zm (Qa0) hb)
   have NB1266_1289 := Yt.mk ((by rw [hg]; exact Nat.ne_of_lt (blk_lt (g := gb1266) (o := .cells #[.bool a0_0, .slice A0_1 l0_1.length c0_1, .slice A0_2 l0_2.length c0_2] 50 (0, 0)) (Qr12 BK1266.out)) : gb1266 ≠ gb1289))
   have NB1289_1266 := Yt.mk ((by rw [hg]; exact Nat.ne_of_gt (blk_lt (g := gb1266) (o := .cells #[.bool a0_0, .slice A0_1 l0_1.length c0_1, .slice A0_2 l0_2.length c0_2] 50 (0, 0)) (Qr12 BK1266.out)) : gb1289 ≠ gb1266))
   replace BK1266 := Yt.mk (Zq (g := gb1266) (o := .cells #[.bool a0_0, .slice A0_1 l0_1.length c0_1, .slice A0_2 l0_2.length c0_2] 50 (0, 0)) (Qr12 BK1266.out) hb)
   have NB1267_1289 := Yt.mk ((by rw [hg]; exact Nat.ne_of_lt (blk_lt (g := gb1267) (o := .cells #[.bool a1_0, .slice A1_1 l1_1.length c1_1, .slice A1_2 l1_2.length c1_2] 50 (0, 0)) (Qr12 BK1267.out)) : gb1267 ≠ gb1289))
   have NB1289_1267 := Yt.mk ((by rw [hg]; exact Nat.ne_of_gt (blk_lt (g := gb1267) (o := .cells #[.bool a1_0, .slice A1_1 l1_1.length c1_1, .slice A1_2 l1_2.length c1_2] 50 (0, 0)) (Qr12 BK1267.out)) : gb1289 ≠ gb1267))
   replace BK1267 := Yt.mk (Zq (g := gb1267) (o := .cells #[.bool a1_0, .slice A1_1 l1_1.length c1_1, .slice A1_2 l1_2.length c1_2] 50 (0, 0)) (Qr12 BK1267.out) hb)
   clear hb hbox hg
   refine hK.out _ _ ⟨(Zl BK1266.out 0).trans rfl, (Zl BK1266.out 1).trans rfl, (Zl BK1266.out 2).trans rfl, (Zl BK1267.out 0).trans rfl, (Zl BK1267.out 1).trans rfl, (Zl BK1267.out 2).trans rfl⟩ (fun hHeld => ?_)
   clear hK K
   refine norm_ (a' := ?_) ?_ ?_
   rotate_left
   ·show Act.put _ (some 7) _ = _
    simp only [Act.put, List.setIfInBounds_toArray, List.set_cons_zero, List.set_cons_succ, Yi, Yj]
    rfl
   exact norm_ Qa14 (hJ2_5_6_9_10_14 (v1270, v1273, v1276, v1279, v1283, v1286, gb1289) _ ⟨hHeld, (Qr1 HO1274.out), (Qr1 HO1280.out), (Qr1 HO1284.out), (Qr1 HO1287.out), (Qr12 BK1266.out), (Qr12 BK1267.out), (Qr12 BK1289.out), GW1289.out, GE1289.out, NB1266_1289.out, NB1289_1266.out, NB1267_1289.out, NB1289_1267.out, (Qa0)⟩)
  intro hJ2_5_6_9_10
  refine join_ (σ := Value × Value × Value × Value × Nat) 6 #[true, true, true, true, true, true, true, true, true, true, false, false, false, false, true, false, false] (fun s_ => [(16, s_.1), (19, s_.2.1), (20, s_.2.2.1), (23, s_.2.2.2.1), (7, .pointer (some ⟨s_.2.2.2.2, 0, none⟩))]) (fun s_ w' => (w'.cell? ⟨gb1266, 0, none⟩ = some (.bool a0_0) ∧ w'.cell? ⟨gb1266, 1, none⟩ = some (.slice A0_1 l0_1.length c0_1) ∧ w'.cell? ⟨gb1266, 2, none⟩ = some (.slice A0_2 l0_2.length c0_2) ∧ w'.cell? ⟨gb1267, 0, none⟩ = some (.bool a1_0) ∧ w'.cell? ⟨gb1267, 1, none⟩ = some (.slice A1_1 l1_1.length c1_1) ∧ w'.cell? ⟨gb1267, 2, none⟩ = some (.slice A1_2 l1_2.length c1_2)) ∧ (Kd.R (Kd.int .u32) 47 w' w.heap.size (fun k_ => some k_ ≠ (s_.2.2.2.1 : Value).ownBlock) s_.2.1 y1272) ∧ (Kd.R (Kd.int .u32) 47 w' w.heap.size (fun k_ => some k_ ≠ (s_.2.1 : Value).ownBlock) s_.2.2.2.1 y1278) ∧ (w'.heap[gb1266]? = some (.cells #[.bool a0_0, .slice A0_1 l0_1.length c0_1, .slice A0_2 l0_2.length c0_2] 50 (0, 0))) ∧ (w'.heap[gb1267]? = some (.cells #[.bool a1_0, .slice A1_1 l1_1.length c1_1, .slice A1_2 l1_2.length c1_2] 50 (0, 0))) ∧ (w'.heap[s_.2.2.2.2]? = some (.cells #[.bool false, .slice none 0 0, .slice none 0 0] 50 (0, 0))) ∧ (w.heap.size ≤ s_.2.2.2.2) ∧ (w.heap.size ≤ s_.2.2.2.2) ∧ (gb1266 ≠ s_.2.2.2.2) ∧ (s_.2.2.2.2 ≠ gb1266) ∧ (gb1267 ≠ s_.2.2.2.2) ∧ (s_.2.2.2.2 ≠ gb1267) ∧ (Below w.heap.size w w')) ?_ ?_
  ·skip
   rintro ⟨v1270, v1273, v1276, v1279, gb1289⟩ w36 ⟨hS_, h0_, h1_, h2_, h3_, h4_, h5_, h6_, h7_, h8_, h9_, h10_, h11_⟩
   have HO1274 : Yt (Kd.R (Kd.int .u32) 47 w36 w.heap.size (fun k_ => some k_ ≠ (v1279 : Value).ownBlock) v1273 y1272) := ⟨h0_⟩
   have HO1280 : Yt (Kd.R (Kd.int .u32) 47 w36 w.heap.size (fun k_ => some k_ ≠ (v1273 : Value).ownBlock) v1279 y1278) := ⟨h1_⟩
   replace BK1266 : Yt (w36.heap[gb1266]? = some (.cells #[.bool a0_0, .slice A0_1 l0_1.length c0_1, .slice A0_2 l0_2.length c0_2] 50 (0, 0))) := ⟨h2_⟩
   replace BK1267 : Yt (w36.heap[gb1267]? = some (.cells #[.bool a1_0, .slice A1_1 l1_1.length c1_1, .slice A1_2 l1_2.length c1_2] 50 (0, 0))) := ⟨h3_⟩
   have BK1289 : Yt (w36.heap[gb1289]? = some (.cells #[.bool false, .slice none 0 0, .slice none 0 0] 50 (0, 0))) := ⟨h4_⟩
   have GW1289 : Yt (w.heap.size ≤ gb1289) := ⟨h5_⟩
   have GE1289 : Yt (w.heap.size ≤ gb1289) := ⟨h6_⟩
   have NB1266_1289 : Yt (gb1266 ≠ gb1289) := ⟨h7_⟩
   have NB1289_1266 : Yt (gb1289 ≠ gb1266) := ⟨h8_⟩
   have NB1267_1289 : Yt (gb1267 ≠ gb1289) := ⟨h9_⟩
   have NB1289_1267 : Yt (gb1289 ≠ gb1267) := ⟨h10_⟩
   replace HB : Yt (Below w.heap.size w w36) := ⟨h11_⟩
   clear h0_ h1_ h2_ h3_ h4_ h5_ h6_ h7_ h8_ h9_ h10_ h11_
   have hHeld : w36.cell? ⟨gb1266, 0, none⟩ = some (.bool a0_0) ∧ w36.cell? ⟨gb1266, 1, none⟩ = some (.slice A0_1 l0_1.length c0_1) ∧ w36.cell? ⟨gb1266, 2, none⟩ = some (.slice A0_2 l0_2.length c0_2) ∧ w36.cell? ⟨gb1267, 0, none⟩ = some (.bool a1_0) ∧ w36.cell? ⟨gb1267, 1, none⟩ = some (.slice A1_1 l1_1.length c1_1) ∧ w36.cell? ⟨gb1267, 2, none⟩ = some (.slice A1_2 l1_2.length c1_2) := hS_
   obtain ⟨Ao37, co37, eo37⟩ := Kd.Zx HO1274.out
   (first | subst eo37 | (injection eo37 with f1_ f2_ f3_; have f4_ := f1_.symm; have f5_ := f3_.symm; clear f1_ f2_ f3_; subst f4_; subst f5_))
   obtain ⟨Ao38, co38, eo38⟩ := Kd.Zx HO1280.out
   (first | subst eo38 | (injection eo38 with f1_ f2_ f3_; have f4_ := f1_.symm; have f5_ := f3_.symm; clear f1_ f2_ f3_; subst f4_; subst f5_))
   refine norm_ (a' := ?_) ?_ ?_
   rotate_left
   ·simp only [putAll, Act.put, List.setIfInBounds_toArray, List.set_cons_zero, List.set_cons_succ]
    rfl
   refine one_ (i := 10) (N := some 24) #[true, true, true, true, true, true, true, true, true, true, true, false, false, false, true, false, false] rfl rfl (one_of HT_.out Qa8) (by decide) (fun K hK => ?_)
   refine goes_ Try.func48 Qa8 rfl #[.bool a0_0, .slice Ao37 y1272.length co37, .slice Ao38 y1278.length co38] (by rfl) rfl rfl Qa2 ?_
   with_reducible refine (ratio_Make.calls k a0_0 _ _ y1272 _ _ y1278 t1281 t1282 t1285 t1288 _ ?side1 ?side2 ?side3 ?side4 A8.out).mono ?_
   (case side1 => exact Qe11 (Kd.Zs HO1274.out).2.2)
   (case side2 => exact (Kd.Zs HO1274.out).2.1)
   (case side3 => exact Qe11 (Kd.Zs HO1280.out).2.2)
   (case side4 => exact (Kd.Zs HO1280.out).2.1)
   rintro e w39 ⟨v1283, v1286, rfl, ho0, ho1, hb⟩
   refine ⟨_, rfl, ?_⟩
   have HO1284 := Yt.mk (Kd.Yb (Kd.Ya (Kd.Ya ho0 (Kd.R_lt (Qr1 HO1274.out))) (Kd.R_lt (Qr1 HO1280.out))) (Zk (Qa0)))
   have HO1287 := Yt.mk (Kd.Yb (Kd.Ya (Kd.Ya ho1 (Kd.R_lt (Qr1 HO1274.out))) (Kd.R_lt (Qr1 HO1280.out))) (Zk (Qa0)))
   replace HO1274 := Yt.mk (Kd.Zv (Kd.Yl (Kd.Yl (Kd.R_old (Qr1 HO1274.out) hb) (Kd.Zw ho0)) (Kd.Zw ho1)) (fun _ h_ => h_.1))
   replace HO1280 := Yt.mk (Kd.Zv (Kd.Yl (Kd.Yl (Kd.R_old (Qr1 HO1280.out) hb) (Kd.Zw ho0)) (Kd.Zw ho1)) (fun _ h_ => h_.1))
   replace BK1266 := Yt.mk (Zq (g := gb1266) (o := .cells #[.bool a0_0, .slice A0_1 l0_1.length c0_1, .slice A0_2 l0_2.length c0_2] 50 (0, 0)) (Qr12 BK1266.out) hb)
   replace BK1267 := Yt.mk (Zq (g := gb1267) (o := .cells #[.bool a1_0, .slice A1_1 l1_1.length c1_1, .slice A1_2 l1_2.length c1_2] 50 (0, 0)) (Qr12 BK1267.out) hb)
   replace BK1289 := Yt.mk (Zq (g := gb1289) (o := .cells #[.bool false, .slice none 0 0, .slice none 0 0] 50 (0, 0)) (Qr12 BK1289.out) hb)
   replace HB := Yt.mk (Zm (Qa0) hb)
   (try clear hb)
   (try clear hb2)
   (try clear hk)
   (try clear hi)
   (try clear ho0)
   (try clear ho1)
   refine hK.out _ _ ⟨(Zl BK1266.out 0).trans rfl, (Zl BK1266.out 1).trans rfl, (Zl BK1266.out 2).trans rfl, (Zl BK1267.out 0).trans rfl, (Zl BK1267.out 1).trans rfl, (Zl BK1267.out 2).trans rfl⟩ (fun hHeld => ?_)
   clear hK K
   refine norm_ (a' := ?_) ?_ ?_
   rotate_left
   ·show Act.put _ (some 24) _ = _
    simp only [Act.put, List.setIfInBounds_toArray, List.set_cons_zero, List.set_cons_succ, Yi, Yj]
    rfl
   refine pure_ (i := 11) (N := some 13) (v := ?_) (a' := ?_) #[true, true, true, true, true, true, true, true, true, true, true, true, false, false, true, false, false] rfl rfl (any_of HT_.out Qa8) (fun _ _ _ h => h) (Or.inl ⟨by rfl, ?_⟩) ?_ ?_
   rotate_left
   ·intro w'
    go_simp
    with_reducible rfl
   rotate_left
   ·simp only [Act.put, List.setIfInBounds_toArray, List.set_cons_zero, List.set_cons_succ, Yi, Yj]
    rfl
   refine pure_ (i := 12) (N := some 25) (v := ?_) (a' := ?_) #[true, true, true, true, true, true, true, true, true, true, true, true, true, false, true, false, false] rfl rfl (any_of HT_.out Qa8) (fun _ _ _ h => h) (Or.inl ⟨by rfl, ?_⟩) ?_ ?_
   rotate_left
   ·intro w'
    go_simp
    with_reducible rfl
   rotate_left
   ·simp only [Act.put, List.setIfInBounds_toArray, List.set_cons_zero, List.set_cons_succ, Yi, Yj]
    rfl
   refine pure_ (i := 13) (N := some 26) (v := ?_) (a' := ?_) #[true, true, true, true, true, true, true, true, true, true, true, true, true, true, true, false, false] rfl rfl (any_of HT_.out Qa8) (fun _ _ _ h => h) (Or.inl ⟨by rfl, ?_⟩) ?_ ?_
   rotate_left
   ·intro w'
    go_simp
    with_reducible rfl
   rotate_left
   ·simp only [Act.put, List.setIfInBounds_toArray, List.set_cons_zero, List.set_cons_succ, Yi, Yj]
    rfl
   exact norm_ Qa14 (hJ2_5_6_9_10_14 (v1270, .slice Ao37 y1272.length co37, v1276, .slice Ao38 y1278.length co38, v1283, v1286, gb1289) _ ⟨hHeld, (by (with_reducible repeat (first | apply Kd.Zf | apply Kd.Ze | apply Kd.Zj)); exact Kd.Zv HO1274.out (fun _ hk => ⟨hk.1.1, ⟨hk.1.2, hk.2⟩⟩)), (by (with_reducible repeat (first | apply Kd.Zf | apply Kd.Ze | apply Kd.Zj)); exact Kd.Zv HO1280.out (fun _ hk => ⟨hk.1.1, ⟨hk.1.2, hk.2⟩⟩)), (by (with_reducible repeat (first | apply Kd.Zf | apply Kd.Ze | apply Kd.Zj)); exact Kd.Zv HO1284.out (fun _ hk => ⟨hk.1.2, ⟨hk.2, hk.1.1⟩⟩)), (by (with_reducible repeat (first | apply Kd.Zf | apply Kd.Ze | apply Kd.Zj)); exact Kd.Zv HO1287.out (fun _ hk => ⟨hk.1.2, ⟨hk.2, hk.1.1⟩⟩)), (Qr12 BK1266.out), (Qr12 BK1267.out), (Qr12 BK1289.out), GW1289.out, GE1289.out, NB1266_1289.out, NB1289_1266.out, NB1267_1289.out, NB1289_1267.out, (Qa0)⟩)
  intro hJ2_5_6_9_14
  refine join_ (σ := Value × Value × Value × Value) 7 #[true, true, true, true, true, true, true, true, true, true, false, false, false, false, false, false, false] (fun s_ => [(16, s_.1), (19, s_.2.1), (20, s_.2.2.1), (23, s_.2.2.2)]) (fun s_ w' => (w'.cell? ⟨gb1266, 0, none⟩ = some (.bool a0_0) ∧ w'.cell? ⟨gb1266, 1, none⟩ = some (.slice A0_1 l0_1.length c0_1) ∧ w'.cell? ⟨gb1266, 2, none⟩ = some (.slice A0_2 l0_2.length c0_2) ∧ w'.cell? ⟨gb1267, 0, none⟩ = some (.bool a1_0) ∧ w'.cell? ⟨gb1267, 1, none⟩ = some (.slice A1_1 l1_1.length c1_1) ∧ w'.cell? ⟨gb1267, 2, none⟩ = some (.slice A1_2 l1_2.length c1_2)) ∧ (Kd.R (Kd.int .u32) 47 w' w.heap.size (fun k_ => some k_ ≠ (s_.2.2.2 : Value).ownBlock) s_.2.1 y1272) ∧ (Kd.R (Kd.int .u32) 47 w' w.heap.size (fun k_ => some k_ ≠ (s_.2.1 : Value).ownBlock) s_.2.2.2 y1278) ∧ (w'.heap[gb1266]? = some (.cells #[.bool a0_0, .slice A0_1 l0_1.length c0_1, .slice A0_2 l0_2.length c0_2] 50 (0, 0))) ∧ (w'.heap[gb1267]? = some (.cells #[.bool a1_0, .slice A1_1 l1_1.length c1_1, .slice A1_2 l1_2.length c1_2] 50 (0, 0))) ∧ (Below w.heap.size w w')) ?_ ?_
  ·skip
   rintro ⟨v1270, v1273, v1276, v1279⟩ w35 ⟨hS_, h0_, h1_, h2_, h3_, h4_⟩
   have HO1274 : Yt (Kd.R (Kd.int .u32) 47 w35 w.heap.size (fun k_ => some k_ ≠ (v1279 : Value).ownBlock) v1273 y1272) := ⟨h0_⟩
   have HO1280 : Yt (Kd.R (Kd.int .u32) 47 w35 w.heap.size (fun k_ => some k_ ≠ (v1273 : Value).ownBlock) v1279 y1278) := ⟨h1_⟩
   replace BK1266 : Yt (w35.heap[gb1266]? = some (.cells #[.bool a0_0, .slice A0_1 l0_1.length c0_1, .slice A0_2 l0_2.length c0_2] 50 (0, 0))) := ⟨h2_⟩
   replace BK1267 : Yt (w35.heap[gb1267]? = some (.cells #[.bool a1_0, .slice A1_1 l1_1.length c1_1, .slice A1_2 l1_2.length c1_2] 50 (0, 0))) := ⟨h3_⟩
   replace HB : Yt (Below w.heap.size w w35) := ⟨h4_⟩
   clear h0_ h1_ h2_ h3_ h4_
   have hHeld : w35.cell? ⟨gb1266, 0, none⟩ = some (.bool a0_0) ∧ w35.cell? ⟨gb1266, 1, none⟩ = some (.slice A0_1 l0_1.length c0_1) ∧ w35.cell? ⟨gb1266, 2, none⟩ = some (.slice A0_2 l0_2.length c0_2) ∧ w35.cell? ⟨gb1267, 0, none⟩ = some (.bool a1_0) ∧ w35.cell? ⟨gb1267, 1, none⟩ = some (.slice A1_1 l1_1.length c1_1) ∧ w35.cell? ⟨gb1267, 2, none⟩ = some (.slice A1_2 l1_2.length c1_2) := hS_
   obtain ⟨Ao36, co36, eo36⟩ := Kd.Zx HO1274.out
   (first | subst eo36 | (injection eo36 with f1_ f2_ f3_; have f4_ := f1_.symm; have f5_ := f3_.symm; clear f1_ f2_ f3_; subst f4_; subst f5_))
   obtain ⟨Ao37, co37, eo37⟩ := Kd.Zx HO1280.out
   (first | subst eo37 | (injection eo37 with f1_ f2_ f3_; have f4_ := f1_.symm; have f5_ := f3_.symm; clear f1_ f2_ f3_; subst f4_; subst f5_))
   refine norm_ (a' := ?_) ?_ ?_
   rotate_left
   ·simp only [putAll, Act.put, List.setIfInBounds_toArray, List.set_cons_zero, List.set_cons_succ]
    rfl
   refine two_ (i := 10) (j := 14) (Ni := some 24) (Nj := some 7) #[true, true, true, true, true, true, true, true, true, true, true, false, false, false, false, false, false] #[true, true, true, true, true, true, true, true, true, true, false, false, false, false, true, false, false] rfl rfl rfl rfl (two_of HT_.out Qa8) (by decide) (by decide) (fun K hK => ?_) (fun K hK => ?_)
   rotate_left
   ·skip
    refine box_step ?hg (N := 7) ?hd (cs := #[.bool false, .slice none 0 0, .slice none 0 0]) (t := 50) ?hr ?_; (case hd => rfl); (case hg => rfl); (case hr => exact Qa9)
    intro gb1289 hg w36 hbox hb
    replace HO1274 := Yt.mk (Kd.Yd (Qr1 HO1274.out) hb)
    replace HO1280 := Yt.mk (Kd.Yd (Qr1 HO1280.out) hb)
    have BK1289 := Yt.mk (hbox)
    have GW1289 := Yt.mk ((by rw [hg]; exact (Zk (Qa0)) : w.heap.size ≤ gb1289))
    have GE1289 := Yt.mk ((by rw [hg]; exact (Zk (Qa0)) : w.heap.size ≤ gb1289))
    replace HB := Yt.mk (Zm (Qa0) hb)
    have NB1266_1289 := Yt.mk ((by rw [hg]; exact Nat.ne_of_lt (blk_lt (g := gb1266) (o := .cells #[.bool a0_0, .slice A0_1 l0_1.length c0_1, .slice A0_2 l0_2.length c0_2] 50 (0, 0)) (Qr12 BK1266.out)) : gb1266 ≠ gb1289))
    have NB1289_1266 := Yt.mk ((by rw [hg]; exact Nat.ne_of_gt (blk_lt (g := gb1266) (o := .cells #[.bool a0_0, .slice A0_1 l0_1.length c0_1, .slice A0_2 l0_2.length c0_2] 50 (0, 0)) (Qr12 BK1266.out)) : gb1289 ≠ gb1266))
    replace BK1266 := Yt.mk (Zq (g := gb1266) (o := .cells #[.bool a0_0, .slice A0_1 l0_1.length c0_1, .slice A0_2 l0_2.length c0_2] 50 (0, 0)) (Qr12 BK1266.out) hb)
    have NB1267_1289 := Yt.mk ((by rw [hg]; exact Nat.ne_of_lt (blk_lt (g := gb1267) (o := .cells #[.bool a1_0, .slice A1_1 l1_1.length c1_1, .slice A1_2 l1_2.length c1_2] 50 (0, 0)) (Qr12 BK1267.out)) : gb1267 ≠ gb1289))
    have NB1289_1267 := Yt.mk ((by rw [hg]; exact Nat.ne_of_gt (blk_lt (g := gb1267) (o := .cells #[.bool a1_0, .slice A1_1 l1_1.length c1_1, .slice A1_2 l1_2.length c1_2] 50 (0, 0)) (Qr12 BK1267.out)) : gb1289 ≠ gb1267))
    replace BK1267 := Yt.mk (Zq (g := gb1267) (o := .cells #[.bool a1_0, .slice A1_1 l1_1.length c1_1, .slice A1_2 l1_2.length c1_2] 50 (0, 0)) (Qr12 BK1267.out) hb)
    clear hb hbox hg
    refine hK.out _ _ ⟨(Zl BK1266.out 0).trans rfl, (Zl BK1266.out 1).trans rfl, (Zl BK1266.out 2).trans rfl, (Zl BK1267.out 0).trans rfl, (Zl BK1267.out 1).trans rfl, (Zl BK1267.out 2).trans rfl⟩ (fun hHeld => ?_)
    clear hK K
    refine norm_ (a' := ?_) ?_ ?_
    rotate_left
    ·show Act.put _ (some 7) _ = _
     simp only [Act.put, List.setIfInBounds_toArray, List.set_cons_zero, List.set_cons_succ, Yi, Yj]
     rfl
    exact norm_ Qa14 (hJ2_5_6_9_14 (v1270, .slice Ao36 y1272.length co36, v1276, .slice Ao37 y1278.length co37, gb1289) _ ⟨hHeld, (Qr1 HO1274.out), (Qr1 HO1280.out), (Qr12 BK1266.out), (Qr12 BK1267.out), (Qr12 BK1289.out), GW1289.out, GE1289.out, NB1266_1289.out, NB1289_1266.out, NB1267_1289.out, NB1289_1267.out, (Qa0)⟩)
   skip
   refine goes_ Try.func48 Qa8 rfl #[.bool a0_0, .slice Ao36 y1272.length co36, .slice Ao37 y1278.length co37] (by rfl) rfl rfl Qa2 ?_
   with_reducible refine (ratio_Make.calls k a0_0 _ _ y1272 _ _ y1278 t1281 t1282 t1285 t1288 _ ?side1 ?side2 ?side3 ?side4 A8.out).mono ?_
   (case side1 => exact Qe11 (Kd.Zs HO1274.out).2.2)
   (case side2 => exact (Kd.Zs HO1274.out).2.1)
   (case side3 => exact Qe11 (Kd.Zs HO1280.out).2.2)
   (case side4 => exact (Kd.Zs HO1280.out).2.1)
   rintro e w38 ⟨v1283, v1286, rfl, ho0, ho1, hb⟩
   refine ⟨_, rfl, ?_⟩
   have HO1284 := Yt.mk (Kd.Yb (Kd.Ya (Kd.Ya ho0 (Kd.R_lt (Qr1 HO1274.out))) (Kd.R_lt (Qr1 HO1280.out))) (Zk (Qa0)))
   have HO1287 := Yt.mk (Kd.Yb (Kd.Ya (Kd.Ya ho1 (Kd.R_lt (Qr1 HO1274.out))) (Kd.R_lt (Qr1 HO1280.out))) (Zk (Qa0)))
   replace HO1274 := Yt.mk (Kd.Zv (Kd.Yl (Kd.Yl (Kd.R_old (Qr1 HO1274.out) hb) (Kd.Zw ho0)) (Kd.Zw ho1)) (fun _ h_ => h_.1))
   replace HO1280 := Yt.mk (Kd.Zv (Kd.Yl (Kd.Yl (Kd.R_old (Qr1 HO1280.out) hb) (Kd.Zw ho0)) (Kd.Zw ho1)) (fun _ h_ => h_.1))
   replace BK1266 := Yt.mk (Zq (g := gb1266) (o := .cells #[.bool a0_0, .slice A0_1 l0_1.length c0_1, .slice A0_2 l0_2.length c0_2] 50 (0, 0)) (Qr12 BK1266.out) hb)
   replace BK1267 := Yt.mk (Zq (g := gb1267) (o := .cells #[.bool a1_0, .slice A1_1 l1_1.length c1_1, .slice A1_2 l1_2.length c1_2] 50 (0, 0)) (Qr12 BK1267.out) hb)
   replace HB := Yt.mk (Zm (Qa0) hb)
   (try clear hb)
   (try clear hb2)
   (try clear hk)
   (try clear hi)
   (try clear ho0)
   (try clear ho1)
   refine hK.out _ _ ⟨(Zl BK1266.out 0).trans rfl, (Zl BK1266.out 1).trans rfl, (Zl BK1266.out 2).trans rfl, (Zl BK1267.out 0).trans rfl, (Zl BK1267.out 1).trans rfl, (Zl BK1267.out 2).trans rfl⟩ (fun hHeld => ?_)
   clear hK K
   refine norm_ (a' := ?_) ?_ ?_
   rotate_left
   ·show Act.put _ (some 24) _ = _
    simp only [Act.put, List.setIfInBounds_toArray, List.set_cons_zero, List.set_cons_succ, Yi, Yj]
    rfl
   refine pure_ (i := 11) (N := some 13) (v := ?_) (a' := ?_) #[true, true, true, true, true, true, true, true, true, true, true, true, false, false, false, false, false] rfl rfl (any_of HT_.out Qa8) (fun _ _ _ h => h) (Or.inl ⟨by rfl, ?_⟩) ?_ ?_
   rotate_left
   ·intro w'
    go_simp
    with_reducible rfl
   rotate_left
   ·simp only [Act.put, List.setIfInBounds_toArray, List.set_cons_zero, List.set_cons_succ, Yi, Yj]
    rfl
   refine pure_ (i := 12) (N := some 25) (v := ?_) (a' := ?_) #[true, true, true, true, true, true, true, true, true, true, true, true, true, false, false, false, false] rfl rfl (any_of HT_.out Qa8) (fun _ _ _ h => h) (Or.inl ⟨by rfl, ?_⟩) ?_ ?_
   rotate_left
   ·intro w'
    go_simp
    with_reducible rfl
   rotate_left
   ·simp only [Act.put, List.setIfInBounds_toArray, List.set_cons_zero, List.set_cons_succ, Yi, Yj]
    rfl
   refine pure_ (i := 13) (N := some 26) (v := ?_) (a' := ?_) #[true, true, true, true, true, true, true, true, true, true, true, true, true, true, false, false, false] rfl rfl (any_of HT_.out Qa8) (fun _ _ _ h => h) (Or.inl ⟨by rfl, ?_⟩) ?_ ?_
   rotate_left
   ·intro w'
    go_simp
    with_reducible rfl
   rotate_left
   ·simp only [Act.put, List.setIfInBounds_toArray, List.set_cons_zero, List.set_cons_succ, Yi, Yj]
    rfl
   exact norm_ Qa14 (hJ2_5_6_9_10 (v1270, .slice Ao36 y1272.length co36, v1276, .slice Ao37 y1278.length co37, v1283, v1286) _ ⟨hHeld, (by (with_reducible repeat (first | apply Kd.Zf | apply Kd.Ze | apply Kd.Zj)); exact Kd.Zv HO1274.out (fun _ hk => ⟨hk.1.1, ⟨hk.1.2, hk.2⟩⟩)), (by (with_reducible repeat (first | apply Kd.Zf | apply Kd.Ze | apply Kd.Zj)); exact Kd.Zv HO1280.out (fun _ hk => ⟨hk.1.1, ⟨hk.1.2, hk.2⟩⟩)), (by (with_reducible repeat (first | apply Kd.Zf | apply Kd.Ze | apply Kd.Zj)); exact Kd.Zv HO1284.out (fun _ hk => ⟨hk.1.2, ⟨hk.2, hk.1.1⟩⟩)), (by (with_reducible repeat (first | apply Kd.Zf | apply Kd.Ze | apply Kd.Zj)); exact Kd.Zv HO1287.out (fun _ hk => ⟨hk.1.2, ⟨hk.2, hk.1.1⟩⟩)), (Qr12 BK1266.out), (Qr12 BK1267.out), (Qa0)⟩)
  intro hJ2_5_6_9
  refine join_ (σ := Value × Value × Value × Nat) 7 #[true, true, true, true, true, true, true, true, true, false, false, false, false, false, true, false, false] (fun s_ => [(16, s_.1), (19, s_.2.1), (20, s_.2.2.1), (7, .pointer (some ⟨s_.2.2.2, 0, none⟩))]) (fun s_ w' => (w'.cell? ⟨gb1266, 0, none⟩ = some (.bool a0_0) ∧ w'.cell? ⟨gb1266, 1, none⟩ = some (.slice A0_1 l0_1.length c0_1) ∧ w'.cell? ⟨gb1266, 2, none⟩ = some (.slice A0_2 l0_2.length c0_2) ∧ w'.cell? ⟨gb1267, 0, none⟩ = some (.bool a1_0) ∧ w'.cell? ⟨gb1267, 1, none⟩ = some (.slice A1_1 l1_1.length c1_1) ∧ w'.cell? ⟨gb1267, 2, none⟩ = some (.slice A1_2 l1_2.length c1_2)) ∧ (Kd.R (Kd.int .u32) 47 w' w.heap.size (fun k_ => some k_ ≠ (s_.2.2.1 : Value).ownBlock) s_.2.1 y1272) ∧ (Kd.R (Kd.int .u32) 47 w' w.heap.size (fun k_ => some k_ ≠ (s_.2.1 : Value).ownBlock) s_.2.2.1 y1275) ∧ (w'.heap[gb1266]? = some (.cells #[.bool a0_0, .slice A0_1 l0_1.length c0_1, .slice A0_2 l0_2.length c0_2] 50 (0, 0))) ∧ (w'.heap[gb1267]? = some (.cells #[.bool a1_0, .slice A1_1 l1_1.length c1_1, .slice A1_2 l1_2.length c1_2] 50 (0, 0))) ∧ (w'.heap[s_.2.2.2]? = some (.cells #[.bool false, .slice none 0 0, .slice none 0 0] 50 (0, 0))) ∧ (w.heap.size ≤ s_.2.2.2) ∧ (w.heap.size ≤ s_.2.2.2) ∧ (gb1266 ≠ s_.2.2.2) ∧ (s_.2.2.2 ≠ gb1266) ∧ (gb1267 ≠ s_.2.2.2) ∧ (s_.2.2.2 ≠ gb1267) ∧ (Below w.heap.size w w')) ?_ ?_
  ·skip
   rintro ⟨v1270, v1273, v1276, gb1289⟩ w35 ⟨hS_, h0_, h1_, h2_, h3_, h4_, h5_, h6_, h7_, h8_, h9_, h10_, h11_⟩
   have HO1274 : Yt (Kd.R (Kd.int .u32) 47 w35 w.heap.size (fun k_ => some k_ ≠ (v1276 : Value).ownBlock) v1273 y1272) := ⟨h0_⟩
   have HO1277 : Yt (Kd.R (Kd.int .u32) 47 w35 w.heap.size (fun k_ => some k_ ≠ (v1273 : Value).ownBlock) v1276 y1275) := ⟨h1_⟩
   replace BK1266 : Yt (w35.heap[gb1266]? = some (.cells #[.bool a0_0, .slice A0_1 l0_1.length c0_1, .slice A0_2 l0_2.length c0_2] 50 (0, 0))) := ⟨h2_⟩
   replace BK1267 : Yt (w35.heap[gb1267]? = some (.cells #[.bool a1_0, .slice A1_1 l1_1.length c1_1, .slice A1_2 l1_2.length c1_2] 50 (0, 0))) := ⟨h3_⟩
   have BK1289 : Yt (w35.heap[gb1289]? = some (.cells #[.bool false, .slice none 0 0, .slice none 0 0] 50 (0, 0))) := ⟨h4_⟩
   have GW1289 : Yt (w.heap.size ≤ gb1289) := ⟨h5_⟩
   have GE1289 : Yt (w.heap.size ≤ gb1289) := ⟨h6_⟩
   have NB1266_1289 : Yt (gb1266 ≠ gb1289) := ⟨h7_⟩
   have NB1289_1266 : Yt (gb1289 ≠ gb1266) := ⟨h8_⟩
   have NB1267_1289 : Yt (gb1267 ≠ gb1289) := ⟨h9_⟩
   have NB1289_1267 : Yt (gb1289 ≠ gb1267) := ⟨h10_⟩
   replace HB : Yt (Below w.heap.size w w35) := ⟨h11_⟩
   clear h0_ h1_ h2_ h3_ h4_ h5_ h6_ h7_ h8_ h9_ h10_ h11_
   have hHeld : w35.cell? ⟨gb1266, 0, none⟩ = some (.bool a0_0) ∧ w35.cell? ⟨gb1266, 1, none⟩ = some (.slice A0_1 l0_1.length c0_1) ∧ w35.cell? ⟨gb1266, 2, none⟩ = some (.slice A0_2 l0_2.length c0_2) ∧ w35.cell? ⟨gb1267, 0, none⟩ = some (.bool a1_0) ∧ w35.cell? ⟨gb1267, 1, none⟩ = some (.slice A1_1 l1_1.length c1_1) ∧ w35.cell? ⟨gb1267, 2, none⟩ = some (.slice A1_2 l1_2.length c1_2) := hS_
   refine norm_ (a' := ?_) ?_ ?_
   rotate_left
   ·simp only [putAll, Act.put, List.setIfInBounds_toArray, List.set_cons_zero, List.set_cons_succ]
    rfl
   refine one_ (i := 9) (N := some 23) #[true, true, true, true, true, true, true, true, true, true, false, false, false, false, true, false, false] rfl rfl (one_of HT_.out Qa8) (by decide) (fun K hK => ?_)
   refine Kd.R_append_rows_step (Kd.int .u32) (w0 := w) w.heap.size (by rfl) (.tmp 20) (.tmp 22) 22 47 (.int .u32 0) 4 rfl Try.underlying22 info47 rfl (by decide) (by omega) v1276 y1275 l1_1 _ _ _ (fun k_ => some k_ ≠ (v1273 : Value).ownBlock) (fun _ => False) rfl rfl ?aO ?aR (fun _ _ h => h) (fun _ h => h.elim) ?aF ?aB ?aS ?aL ?_
   (case aR => exact Qe11 (Kd.Ys HR1_1.out HB.out))
   (case aB => exact (Qa0))
   (case aF => exact (fun k_ hk => Kd.fresh' (Kd.R_lt (Qr1 HO1274.out)) k_ hk))
   (case aO => exact (Qr1 HO1277.out))
   (case aS => exact (Zk (Qa0)))
   (case aL => have := LMc7.out; omega)
   intro v1279 w36 ho hb hg hat
   rw [← Ny1278.out] at ho
   replace BK1266 := Yt.mk (blk_grown (g := gb1266) (o := .cells #[.bool a0_0, .slice A0_1 l0_1.length c0_1, .slice A0_2 l0_2.length c0_2] 50 (0, 0)) (Qr12 BK1266.out) hg (Kd.R_ne HO1277.out BK1266.out (by decide)))
   replace BK1267 := Yt.mk (blk_grown (g := gb1267) (o := .cells #[.bool a1_0, .slice A1_1 l1_1.length c1_1, .slice A1_2 l1_2.length c1_2] 50 (0, 0)) (Qr12 BK1267.out) hg (Kd.R_ne HO1277.out BK1267.out (by decide)))
   replace HO1274 := Yt.mk (Kd.R_after (ok := (fun _ => True)) (by (with_reducible repeat (first | apply Kd.Zf | apply Kd.Ze | apply Kd.Zj)); exact Kd.Zv HO1274.out (fun _ hk => ⟨trivial, hk⟩)) hg hat)
   replace BK1289 := Yt.mk (blk_grown (g := gb1289) (o := .cells #[.bool false, .slice none 0 0, .slice none 0 0] 50 (0, 0)) (Qr12 BK1289.out) hg (Kd.R_ne HO1277.out BK1289.out (by decide)))
   replace HB := Yt.mk (hb)
   have HO1280 := Yt.mk (ho)
   clear HO1277
   clear ho hb hg hat
   refine hK.out _ _ ⟨(Zl BK1266.out 0).trans rfl, (Zl BK1266.out 1).trans rfl, (Zl BK1266.out 2).trans rfl, (Zl BK1267.out 0).trans rfl, (Zl BK1267.out 1).trans rfl, (Zl BK1267.out 2).trans rfl⟩ (fun hHeld => ?_)
   clear hK K
   refine norm_ (a' := ?_) ?_ ?_
   rotate_left
   ·show Act.put _ (some 23) _ = _
    simp only [Act.put, List.setIfInBounds_toArray, List.set_cons_zero, List.set_cons_succ, Yi, Yj]
    rfl
   exact norm_ Qa14 (hJ2_5_6_9_14 (v1270, v1273, v1276, v1279, gb1289) _ ⟨hHeld, (by (with_reducible repeat (first | apply Kd.Zf | apply Kd.Ze | apply Kd.Zj)); exact Kd.Zv HO1274.out (fun _ hk => hk.2)), (Qr1 HO1280.out), (Qr12 BK1266.out), (Qr12 BK1267.out), (Qr12 BK1289.out), GW1289.out, GE1289.out, NB1266_1289.out, NB1289_1266.out, NB1267_1289.out, NB1289_1267.out, (Qa0)⟩)
  intro hJ2_5_6_14
  refine join_ (σ := Value × Value × Value) 8 #[true, true, true, true, true, true, true, true, true, false, false, false, false, false, false, false, false] (fun s_ => [(16, s_.1), (19, s_.2.1), (20, s_.2.2)]) (fun s_ w' => (w'.cell? ⟨gb1266, 0, none⟩ = some (.bool a0_0) ∧ w'.cell? ⟨gb1266, 1, none⟩ = some (.slice A0_1 l0_1.length c0_1) ∧ w'.cell? ⟨gb1266, 2, none⟩ = some (.slice A0_2 l0_2.length c0_2) ∧ w'.cell? ⟨gb1267, 0, none⟩ = some (.bool a1_0) ∧ w'.cell? ⟨gb1267, 1, none⟩ = some (.slice A1_1 l1_1.length c1_1) ∧ w'.cell? ⟨gb1267, 2, none⟩ = some (.slice A1_2 l1_2.length c1_2)) ∧ (Kd.R (Kd.int .u32) 47 w' w.heap.size (fun k_ => some k_ ≠ (s_.2.2 : Value).ownBlock) s_.2.1 y1272) ∧ (Kd.R (Kd.int .u32) 47 w' w.heap.size (fun k_ => some k_ ≠ (s_.2.1 : Value).ownBlock) s_.2.2 y1275) ∧ (w'.heap[gb1266]? = some (.cells #[.bool a0_0, .slice A0_1 l0_1.length c0_1, .slice A0_2 l0_2.length c0_2] 50 (0, 0))) ∧ (w'.heap[gb1267]? = some (.cells #[.bool a1_0, .slice A1_1 l1_1.length c1_1, .slice A1_2 l1_2.length c1_2] 50 (0, 0))) ∧ (Below w.heap.size w w')) ?_ ?_
  ·skip
   rintro ⟨v1270, v1273, v1276⟩ w34 ⟨hS_, h0_, h1_, h2_, h3_, h4_⟩
   have HO1274 : Yt (Kd.R (Kd.int .u32) 47 w34 w.heap.size (fun k_ => some k_ ≠ (v1276 : Value).ownBlock) v1273 y1272) := ⟨h0_⟩
   have HO1277 : Yt (Kd.R (Kd.int .u32) 47 w34 w.heap.size (fun k_ => some k_ ≠ (v1273 : Value).ownBlock) v1276 y1275) := ⟨h1_⟩
   replace BK1266 : Yt (w34.heap[gb1266]? = some (.cells #[.bool a0_0, .slice A0_1 l0_1.length c0_1, .slice A0_2 l0_2.length c0_2] 50 (0, 0))) := ⟨h2_⟩
   replace BK1267 : Yt (w34.heap[gb1267]? = some (.cells #[.bool a1_0, .slice A1_1 l1_1.length c1_1, .slice A1_2 l1_2.length c1_2] 50 (0, 0))) := ⟨h3_⟩
   replace HB : Yt (Below w.heap.size w w34) := ⟨h4_⟩
   clear h0_ h1_ h2_ h3_ h4_
   have hHeld : w34.cell? ⟨gb1266, 0, none⟩ = some (.bool a0_0) ∧ w34.cell? ⟨gb1266, 1, none⟩ = some (.slice A0_1 l0_1.length c0_1) ∧ w34.cell? ⟨gb1266, 2, none⟩ = some (.slice A0_2 l0_2.length c0_2) ∧ w34.cell? ⟨gb1267, 0, none⟩ = some (.bool a1_0) ∧ w34.cell? ⟨gb1267, 1, none⟩ = some (.slice A1_1 l1_1.length c1_1) ∧ w34.cell? ⟨gb1267, 2, none⟩ = some (.slice A1_2 l1_2.length c1_2) := hS_
   refine norm_ (a' := ?_) ?_ ?_
   rotate_left
   ·simp only [putAll, Act.put, List.setIfInBounds_toArray, List.set_cons_zero, List.set_cons_succ]
    rfl
   refine two_ (i := 9) (j := 14) (Ni := some 23) (Nj := some 7) #[true, true, true, true, true, true, true, true, true, true, false, false, false, false, false, false, false] #[true, true, true, true, true, true, true, true, true, false, false, false, false, false, true, false, false] rfl rfl rfl rfl (two_of HT_.out Qa8) (by decide) (by decide) (fun K hK => ?_) (fun K hK => ?_)
   ·skip
    refine Kd.R_append_rows_step (Kd.int .u32) (w0 := w) w.heap.size (by rfl) (.tmp 20) (.tmp 22) 22 47 (.int .u32 0) 4 rfl Try.underlying22 info47 rfl (by decide) (by omega) v1276 y1275 l1_1 _ _ _ (fun k_ => some k_ ≠ (v1273 : Value).ownBlock) (fun _ => False) rfl rfl ?aO ?aR (fun _ _ h => h) (fun _ h => h.elim) ?aF ?aB ?aS ?aL ?_
    (case aR => exact Qe11 (Kd.Ys HR1_1.out HB.out))
    (case aB => exact (Qa0))
    (case aF => exact (fun k_ hk => Kd.fresh' (Kd.R_lt (Qr1 HO1274.out)) k_ hk))
    (case aO => exact (Qr1 HO1277.out))
    (case aS => exact (Zk (Qa0)))
    (case aL => have := LMc7.out; omega)
    intro v1279 w35 ho hb hg hat
    rw [← Ny1278.out] at ho
    replace BK1266 := Yt.mk (blk_grown (g := gb1266) (o := .cells #[.bool a0_0, .slice A0_1 l0_1.length c0_1, .slice A0_2 l0_2.length c0_2] 50 (0, 0)) (Qr12 BK1266.out) hg (Kd.R_ne HO1277.out BK1266.out (by decide)))
    replace BK1267 := Yt.mk (blk_grown (g := gb1267) (o := .cells #[.bool a1_0, .slice A1_1 l1_1.length c1_1, .slice A1_2 l1_2.length c1_2] 50 (0, 0)) (Qr12 BK1267.out) hg (Kd.R_ne HO1277.out BK1267.out (by decide)))
    replace HO1274 := Yt.mk (Kd.R_after (ok := (fun _ => True)) (by (with_reducible repeat (first | apply Kd.Zf | apply Kd.Ze | apply Kd.Zj)); exact Kd.Zv HO1274.out (fun _ hk => ⟨trivial, hk⟩)) hg hat)
    replace HB := Yt.mk (hb)
    have HO1280 := Yt.mk (ho)
    clear HO1277
    clear ho hb hg hat
    refine hK.out _ _ ⟨(Zl BK1266.out 0).trans rfl, (Zl BK1266.out 1).trans rfl, (Zl BK1266.out 2).trans rfl, (Zl BK1267.out 0).trans rfl, (Zl BK1267.out 1).trans rfl, (Zl BK1267.out 2).trans rfl⟩ (fun hHeld => ?_)
    clear hK K
    refine norm_ (a' := ?_) ?_ ?_
    rotate_left
    ·show Act.put _ (some 23) _ = _
     simp only [Act.put, List.setIfInBounds_toArray, List.set_cons_zero, List.set_cons_succ, Yi, Yj]
     rfl
    exact norm_ Qa14 (hJ2_5_6_9 (v1270, v1273, v1276, v1279) _ ⟨hHeld, (by (with_reducible repeat (first | apply Kd.Zf | apply Kd.Ze | apply Kd.Zj)); exact Kd.Zv HO1274.out (fun _ hk => hk.2)), (Qr1 HO1280.out), (Qr12 BK1266.out), (Qr12 BK1267.out), (Qa0)⟩)
   skip
   refine box_step ?hg (N := 7) ?hd (cs := #[.bool false, .slice none 0 0, .slice none 0 0]) (t := 50) ?hr ?_; (case hd => rfl); (case hg => rfl); (case hr => exact Qa9)
   intro gb1289 hg w35 hbox hb
   replace HO1274 := Yt.mk (Kd.Yd (Qr1 HO1274.out) hb)
   replace HO1277 := Yt.mk (Kd.Yd (Qr1 HO1277.out) hb)
   have BK1289 := Yt.mk (hbox)
   have GW1289 := Yt.mk ((by rw [hg]; exact (Zk (Qa0)) : w.heap.size ≤ gb1289))
   have GE1289 := Yt.mk ((by rw [hg]; exact (Zk (Qa0)) : w.heap.size ≤ gb1289))
   replace HB := Yt.mk (Zm (Qa0) hb)
   have NB1266_1289 := Yt.mk ((by rw [hg]; exact Nat.ne_of_lt (blk_lt (g := gb1266) (o := .cells #[.bool a0_0, .slice A0_1 l0_1.length c0_1, .slice A0_2 l0_2.length c0_2] 50 (0, 0)) (Qr12 BK1266.out)) : gb1266 ≠ gb1289))
   have NB1289_1266 := Yt.mk ((by rw [hg]; exact Nat.ne_of_gt (blk_lt (g := gb1266) (o := .cells #[.bool a0_0, .slice A0_1 l0_1.length c0_1, .slice A0_2 l0_2.length c0_2] 50 (0, 0)) (Qr12 BK1266.out)) : gb1289 ≠ gb1266))
   replace BK1266 := Yt.mk (Zq (g := gb1266) (o := .cells #[.bool a0_0, .slice A0_1 l0_1.length c0_1, .slice A0_2 l0_2.length c0_2] 50 (0, 0)) (Qr12 BK1266.out) hb)
   have NB1267_1289 := Yt.mk ((by rw [hg]; exact Nat.ne_of_lt (blk_lt (g := gb1267) (o := .cells #[.bool a1_0, .slice A1_1 l1_1.length c1_1, .slice A1_2 l1_2.length c1_2] 50 (0, 0)) (Qr12 BK1267.out)) : gb1267 ≠ gb1289))
   have NB1289_1267 := Yt.mk ((by rw [hg]; exact Nat.ne_of_gt (blk_lt (g := gb1267) (o := .cells #[.bool a1_0, .slice A1_1 l1_1.length c1_1, .slice A1_2 l1_2.length c1_2] 50 (0, 0)) (Qr12 BK1267.out)) : gb1289 ≠ gb1267))
   replace BK1267 := Yt.mk (Zq (g := gb1267) (o := .cells #[.bool a1_0, .slice A1_1 l1_1.length c1_1, .slice A1_2 l1_2.length c1_2] 50 (0, 0)) (Qr12 BK1267.out) hb)
   clear hb hbox hg
   refine hK.out _ _ ⟨(Zl BK1266.out 0).trans rfl, (Zl BK1266.out 1).trans rfl, (Zl BK1266.out 2).trans rfl, (Zl BK1267.out 0).trans rfl, (Zl BK1267.out 1).trans rfl, (Zl BK1267.out 2).trans rfl⟩ (fun hHeld => ?_)
   clear hK K
   refine norm_ (a' := ?_) ?_ ?_
   rotate_left
   ·show Act.put _ (some 7) _ = _
    simp only [Act.put, List.setIfInBounds_toArray, List.set_cons_zero, List.set_cons_succ, Yi, Yj]
    rfl
   exact norm_ Qa14 (hJ2_5_6_14 (v1270, v1273, v1276, gb1289) _ ⟨hHeld, (Qr1 HO1274.out), (Qr1 HO1277.out), (Qr12 BK1266.out), (Qr12 BK1267.out), (Qr12 BK1289.out), GW1289.out, GE1289.out, NB1266_1289.out, NB1289_1266.out, NB1267_1289.out, NB1289_1267.out, (Qa0)⟩)
  intro hJ2_5_6
  refine join_ (σ := Value × Value × Nat) 8 #[true, true, true, true, true, true, false, true, true, false, false, false, false, false, true, false, false] (fun s_ => [(16, s_.1), (19, s_.2.1), (7, .pointer (some ⟨s_.2.2, 0, none⟩))]) (fun s_ w' => (w'.cell? ⟨gb1266, 0, none⟩ = some (.bool a0_0) ∧ w'.cell? ⟨gb1266, 1, none⟩ = some (.slice A0_1 l0_1.length c0_1) ∧ w'.cell? ⟨gb1266, 2, none⟩ = some (.slice A0_2 l0_2.length c0_2) ∧ w'.cell? ⟨gb1267, 0, none⟩ = some (.bool a1_0) ∧ w'.cell? ⟨gb1267, 1, none⟩ = some (.slice A1_1 l1_1.length c1_1) ∧ w'.cell? ⟨gb1267, 2, none⟩ = some (.slice A1_2 l1_2.length c1_2)) ∧ (Kd.R (Kd.int .u32) 47 w' w.heap.size (fun _ => True) s_.2.1 y1272) ∧ (w'.heap[gb1266]? = some (.cells #[.bool a0_0, .slice A0_1 l0_1.length c0_1, .slice A0_2 l0_2.length c0_2] 50 (0, 0))) ∧ (w'.heap[gb1267]? = some (.cells #[.bool a1_0, .slice A1_1 l1_1.length c1_1, .slice A1_2 l1_2.length c1_2] 50 (0, 0))) ∧ (w'.heap[s_.2.2]? = some (.cells #[.bool false, .slice none 0 0, .slice none 0 0] 50 (0, 0))) ∧ (w.heap.size ≤ s_.2.2) ∧ (w.heap.size ≤ s_.2.2) ∧ (gb1266 ≠ s_.2.2) ∧ (s_.2.2 ≠ gb1266) ∧ (gb1267 ≠ s_.2.2) ∧ (s_.2.2 ≠ gb1267) ∧ (Below w.heap.size w w')) ?_ ?_
  ·skip
   rintro ⟨v1270, v1273, gb1289⟩ w33 ⟨hS_, h0_, h1_, h2_, h3_, h4_, h5_, h6_, h7_, h8_, h9_, h10_⟩
   have HO1274 : Yt (Kd.R (Kd.int .u32) 47 w33 w.heap.size (fun _ => True) v1273 y1272) := ⟨h0_⟩
   replace BK1266 : Yt (w33.heap[gb1266]? = some (.cells #[.bool a0_0, .slice A0_1 l0_1.length c0_1, .slice A0_2 l0_2.length c0_2] 50 (0, 0))) := ⟨h1_⟩
   replace BK1267 : Yt (w33.heap[gb1267]? = some (.cells #[.bool a1_0, .slice A1_1 l1_1.length c1_1, .slice A1_2 l1_2.length c1_2] 50 (0, 0))) := ⟨h2_⟩
   have BK1289 : Yt (w33.heap[gb1289]? = some (.cells #[.bool false, .slice none 0 0, .slice none 0 0] 50 (0, 0))) := ⟨h3_⟩
   have GW1289 : Yt (w.heap.size ≤ gb1289) := ⟨h4_⟩
   have GE1289 : Yt (w.heap.size ≤ gb1289) := ⟨h5_⟩
   have NB1266_1289 : Yt (gb1266 ≠ gb1289) := ⟨h6_⟩
   have NB1289_1266 : Yt (gb1289 ≠ gb1266) := ⟨h7_⟩
   have NB1267_1289 : Yt (gb1267 ≠ gb1289) := ⟨h8_⟩
   have NB1289_1267 : Yt (gb1289 ≠ gb1267) := ⟨h9_⟩
   replace HB : Yt (Below w.heap.size w w33) := ⟨h10_⟩
   clear h0_ h1_ h2_ h3_ h4_ h5_ h6_ h7_ h8_ h9_ h10_
   have hHeld : w33.cell? ⟨gb1266, 0, none⟩ = some (.bool a0_0) ∧ w33.cell? ⟨gb1266, 1, none⟩ = some (.slice A0_1 l0_1.length c0_1) ∧ w33.cell? ⟨gb1266, 2, none⟩ = some (.slice A0_2 l0_2.length c0_2) ∧ w33.cell? ⟨gb1267, 0, none⟩ = some (.bool a1_0) ∧ w33.cell? ⟨gb1267, 1, none⟩ = some (.slice A1_1 l1_1.length c1_1) ∧ w33.cell? ⟨gb1267, 2, none⟩ = some (.slice A1_2 l1_2.length c1_2) := hS_
   refine norm_ (a' := ?_) ?_ ?_
   rotate_left
   ·simp only [putAll, Act.put, List.setIfInBounds_toArray, List.set_cons_zero, List.set_cons_succ]
    rfl
   refine one_ (i := 6) (N := some 20) #[true, true, true, true, true, true, true, true, true, false, false, false, false, false, true, false, false] rfl rfl (one_of HT_.out Qa8) (by decide) (fun K hK => ?_)
   refine Kd.R_lit_step (Kd.int .u32) _ 47 ?hg (N := 20) ?hd (xs := ([] : List Int)) (inner := []) (ok := fun _ => True) (okp := fun _ => True) ?hr ?hp (fun _ hk => hk) trivial (Below.refl _ _) (Nat.le_refl _) (by simp) ?_; (case hd => rfl); (case hg => rfl); (case hr => exact Qa9); (case hp => exact (Reps.none _ _))
   intro v1276 w34 ho35 hb hg_ hnew_
   clear hg_ hnew_
   (first | rw [← Ny1275.out] at ho35 | (simp only [Int.reduceToNat] at ho35; rw [← Ny1275.out] at ho35))
   have HO1277 := Yt.mk (Kd.Yb (Kd.Ya ho35 (Kd.R_lt (Qr1 HO1274.out))) (Zk (Qa0)))
   replace HO1274 := Yt.mk (Kd.Yf (Qr1 HO1274.out) (Kd.Zw ho35) hb)
   replace BK1266 := Yt.mk (Zq (g := gb1266) (o := .cells #[.bool a0_0, .slice A0_1 l0_1.length c0_1, .slice A0_2 l0_2.length c0_2] 50 (0, 0)) (Qr12 BK1266.out) hb)
   replace BK1267 := Yt.mk (Zq (g := gb1267) (o := .cells #[.bool a1_0, .slice A1_1 l1_1.length c1_1, .slice A1_2 l1_2.length c1_2] 50 (0, 0)) (Qr12 BK1267.out) hb)
   replace BK1289 := Yt.mk (Zq (g := gb1289) (o := .cells #[.bool false, .slice none 0 0, .slice none 0 0] 50 (0, 0)) (Qr12 BK1289.out) hb)
   replace HB := Yt.mk (Zm (Qa0) hb)
   clear hb ho35
   refine hK.out _ _ ⟨(Zl BK1266.out 0).trans rfl, (Zl BK1266.out 1).trans rfl, (Zl BK1266.out 2).trans rfl, (Zl BK1267.out 0).trans rfl, (Zl BK1267.out 1).trans rfl, (Zl BK1267.out 2).trans rfl⟩ (fun hHeld => ?_)
   clear hK K
   refine norm_ (a' := ?_) ?_ ?_
   rotate_left
   ·show Act.put _ (some 20) _ = _
    simp only [Act.put, List.setIfInBounds_toArray, List.set_cons_zero, List.set_cons_succ, Yi, Yj]
    rfl
   exact norm_ Qa14 (hJ2_5_6_14 (v1270, v1273, v1276, gb1289) _ ⟨hHeld, (by (with_reducible repeat (first | apply Kd.Zf | apply Kd.Ze | apply Kd.Zj)); exact Kd.Zv HO1274.out (fun _ hk => hk.2)), (by (with_reducible repeat (first | apply Kd.Zf | apply Kd.Ze | apply Kd.Zj)); exact Kd.Zv HO1277.out (fun _ hk => hk.2)), (Qr12 BK1266.out), (Qr12 BK1267.out), (Qr12 BK1289.out), GW1289.out, GE1289.out, NB1266_1289.out, NB1289_1266.out, NB1267_1289.out, NB1289_1267.out, (Qa0)⟩)
  intro hJ2_5_14
  refine join_ (σ := Value × Value × Nat) 8 #[true, true, true, true, true, false, true, true, true, false, false, false, false, false, true, false, false] (fun s_ => [(16, s_.1), (20, s_.2.1), (7, .pointer (some ⟨s_.2.2, 0, none⟩))]) (fun s_ w' => (w'.cell? ⟨gb1266, 0, none⟩ = some (.bool a0_0) ∧ w'.cell? ⟨gb1266, 1, none⟩ = some (.slice A0_1 l0_1.length c0_1) ∧ w'.cell? ⟨gb1266, 2, none⟩ = some (.slice A0_2 l0_2.length c0_2) ∧ w'.cell? ⟨gb1267, 0, none⟩ = some (.bool a1_0) ∧ w'.cell? ⟨gb1267, 1, none⟩ = some (.slice A1_1 l1_1.length c1_1) ∧ w'.cell? ⟨gb1267, 2, none⟩ = some (.slice A1_2 l1_2.length c1_2)) ∧ (Kd.R (Kd.int .u32) 47 w' w.heap.size (fun k_ => some k_ ≠ (s_.2.1 : Value).ownBlock) s_.1 y1269) ∧ (Kd.R (Kd.int .u32) 47 w' w.heap.size (fun k_ => some k_ ≠ (s_.1 : Value).ownBlock) s_.2.1 y1275) ∧ (w'.heap[gb1266]? = some (.cells #[.bool a0_0, .slice A0_1 l0_1.length c0_1, .slice A0_2 l0_2.length c0_2] 50 (0, 0))) ∧ (w'.heap[gb1267]? = some (.cells #[.bool a1_0, .slice A1_1 l1_1.length c1_1, .slice A1_2 l1_2.length c1_2] 50 (0, 0))) ∧ (w'.heap[s_.2.2]? = some (.cells #[.bool false, .slice none 0 0, .slice none 0 0] 50 (0, 0))) ∧ (w.heap.size ≤ s_.2.2) ∧ (w.heap.size ≤ s_.2.2) ∧ (gb1266 ≠ s_.2.2) ∧ (s_.2.2 ≠ gb1266) ∧ (gb1267 ≠ s_.2.2) ∧ (s_.2.2 ≠ gb1267) ∧ (Below w.heap.size w w')) ?_ ?_
  ·skip
   rintro ⟨v1270, v1276, gb1289⟩ w34 ⟨hS_, h0_, h1_, h2_, h3_, h4_, h5_, h6_, h7_, h8_, h9_, h10_, h11_⟩
   have HO1271 : Yt (Kd.R (Kd.int .u32) 47 w34 w.heap.size (fun k_ => some k_ ≠ (v1276 : Value).ownBlock) v1270 y1269) := ⟨h0_⟩
   have HO1277 : Yt (Kd.R (Kd.int .u32) 47 w34 w.heap.size (fun k_ => some k_ ≠ (v1270 : Value).ownBlock) v1276 y1275) := ⟨h1_⟩
   replace BK1266 : Yt (w34.heap[gb1266]? = some (.cells #[.bool a0_0, .slice A0_1 l0_1.length c0_1, .slice A0_2 l0_2.length c0_2] 50 (0, 0))) := ⟨h2_⟩
   replace BK1267 : Yt (w34.heap[gb1267]? = some (.cells #[.bool a1_0, .slice A1_1 l1_1.length c1_1, .slice A1_2 l1_2.length c1_2] 50 (0, 0))) := ⟨h3_⟩
   have BK1289 : Yt (w34.heap[gb1289]? = some (.cells #[.bool false, .slice none 0 0, .slice none 0 0] 50 (0, 0))) := ⟨h4_⟩
   have GW1289 : Yt (w.heap.size ≤ gb1289) := ⟨h5_⟩
   have GE1289 : Yt (w.heap.size ≤ gb1289) := ⟨h6_⟩
   have NB1266_1289 : Yt (gb1266 ≠ gb1289) := ⟨h7_⟩
   have NB1289_1266 : Yt (gb1289 ≠ gb1266) := ⟨h8_⟩
   have NB1267_1289 : Yt (gb1267 ≠ gb1289) := ⟨h9_⟩
   have NB1289_1267 : Yt (gb1289 ≠ gb1267) := ⟨h10_⟩
   replace HB : Yt (Below w.heap.size w w34) := ⟨h11_⟩
   clear h0_ h1_ h2_ h3_ h4_ h5_ h6_ h7_ h8_ h9_ h10_ h11_
   have hHeld : w34.cell? ⟨gb1266, 0, none⟩ = some (.bool a0_0) ∧ w34.cell? ⟨gb1266, 1, none⟩ = some (.slice A0_1 l0_1.length c0_1) ∧ w34.cell? ⟨gb1266, 2, none⟩ = some (.slice A0_2 l0_2.length c0_2) ∧ w34.cell? ⟨gb1267, 0, none⟩ = some (.bool a1_0) ∧ w34.cell? ⟨gb1267, 1, none⟩ = some (.slice A1_1 l1_1.length c1_1) ∧ w34.cell? ⟨gb1267, 2, none⟩ = some (.slice A1_2 l1_2.length c1_2) := hS_
   refine norm_ (a' := ?_) ?_ ?_
   rotate_left
   ·simp only [putAll, Act.put, List.setIfInBounds_toArray, List.set_cons_zero, List.set_cons_succ]
    rfl
   refine one_ (i := 5) (N := some 19) #[true, true, true, true, true, true, true, true, true, false, false, false, false, false, true, false, false] rfl rfl (one_of HT_.out Qa8) (by decide) (fun K hK => ?_)
   refine Kd.R_append_rows_step (Kd.int .u32) (w0 := w) w.heap.size (by rfl) (.tmp 16) (.tmp 18) 22 47 (.int .u32 0) 4 rfl Try.underlying22 info47 rfl (by decide) (by omega) v1270 y1269 l0_1 _ _ _ (fun k_ => some k_ ≠ (v1276 : Value).ownBlock) (fun _ => False) rfl rfl ?aO ?aR (fun _ _ h => h) (fun _ h => h.elim) ?aF ?aB ?aS ?aL ?_
   (case aR => exact Qe11 (Kd.Ys HR0_1.out HB.out))
   (case aB => exact (Qa0))
   (case aF => exact (fun k_ hk => Kd.fresh' (Kd.R_lt (Qr1 HO1277.out)) k_ hk))
   (case aO => exact (Qr1 HO1271.out))
   (case aS => exact (Zk (Qa0)))
   (case aL => have := LMc6.out; omega)
   intro v1273 w35 ho hb hg hat
   rw [← Ny1272.out] at ho
   replace BK1266 := Yt.mk (blk_grown (g := gb1266) (o := .cells #[.bool a0_0, .slice A0_1 l0_1.length c0_1, .slice A0_2 l0_2.length c0_2] 50 (0, 0)) (Qr12 BK1266.out) hg (Kd.R_ne HO1271.out BK1266.out (by decide)))
   replace BK1267 := Yt.mk (blk_grown (g := gb1267) (o := .cells #[.bool a1_0, .slice A1_1 l1_1.length c1_1, .slice A1_2 l1_2.length c1_2] 50 (0, 0)) (Qr12 BK1267.out) hg (Kd.R_ne HO1271.out BK1267.out (by decide)))
   replace HO1277 := Yt.mk (Kd.R_after (ok := (fun _ => True)) (by (with_reducible repeat (first | apply Kd.Zf | apply Kd.Ze | apply Kd.Zj)); exact Kd.Zv HO1277.out (fun _ hk => ⟨trivial, hk⟩)) hg hat)
   replace BK1289 := Yt.mk (blk_grown (g := gb1289) (o := .cells #[.bool false, .slice none 0 0, .slice none 0 0] 50 (0, 0)) (Qr12 BK1289.out) hg (Kd.R_ne HO1271.out BK1289.out (by decide)))
   replace HB := Yt.mk (hb)
   have HO1274 := Yt.mk (ho)
   clear HO1271
   clear ho hb hg hat
   refine hK.out _ _ ⟨(Zl BK1266.out 0).trans rfl, (Zl BK1266.out 1).trans rfl, (Zl BK1266.out 2).trans rfl, (Zl BK1267.out 0).trans rfl, (Zl BK1267.out 1).trans rfl, (Zl BK1267.out 2).trans rfl⟩ (fun hHeld => ?_)
   clear hK K
   refine norm_ (a' := ?_) ?_ ?_
   rotate_left
   ·show Act.put _ (some 19) _ = _
    simp only [Act.put, List.setIfInBounds_toArray, List.set_cons_zero, List.set_cons_succ, Yi, Yj]
    rfl
   exact norm_ Qa14 (hJ2_5_6_14 (v1270, v1273, v1276, gb1289) _ ⟨hHeld, (Qr1 HO1274.out), (by (with_reducible repeat (first | apply Kd.Zf | apply Kd.Ze | apply Kd.Zj)); exact Kd.Zv HO1277.out (fun _ hk => hk.2)), (Qr12 BK1266.out), (Qr12 BK1267.out), (Qr12 BK1289.out), GW1289.out, GE1289.out, NB1266_1289.out, NB1289_1266.out, NB1267_1289.out, NB1289_1267.out, (Qa0)⟩)
  intro hJ2_6_14
  refine join_ (σ := Value × Value) 9 #[true, true, true, true, true, true, false, true, true, false, false, false, false, false, false, false, false] (fun s_ => [(16, s_.1), (19, s_.2)]) (fun s_ w' => (w'.cell? ⟨gb1266, 0, none⟩ = some (.bool a0_0) ∧ w'.cell? ⟨gb1266, 1, none⟩ = some (.slice A0_1 l0_1.length c0_1) ∧ w'.cell? ⟨gb1266, 2, none⟩ = some (.slice A0_2 l0_2.length c0_2) ∧ w'.cell? ⟨gb1267, 0, none⟩ = some (.bool a1_0) ∧ w'.cell? ⟨gb1267, 1, none⟩ = some (.slice A1_1 l1_1.length c1_1) ∧ w'.cell? ⟨gb1267, 2, none⟩ = some (.slice A1_2 l1_2.length c1_2)) ∧ (Kd.R (Kd.int .u32) 47 w' w.heap.size (fun _ => True) s_.2 y1272) ∧ (w'.heap[gb1266]? = some (.cells #[.bool a0_0, .slice A0_1 l0_1.length c0_1, .slice A0_2 l0_2.length c0_2] 50 (0, 0))) ∧ (w'.heap[gb1267]? = some (.cells #[.bool a1_0, .slice A1_1 l1_1.length c1_1, .slice A1_2 l1_2.length c1_2] 50 (0, 0))) ∧ (Below w.heap.size w w')) ?_ ?_
  ·skip
   rintro ⟨v1270, v1273⟩ w32 ⟨hS_, h0_, h1_, h2_, h3_⟩
   have HO1274 : Yt (Kd.R (Kd.int .u32) 47 w32 w.heap.size (fun _ => True) v1273 y1272) := ⟨h0_⟩
   replace BK1266 : Yt (w32.heap[gb1266]? = some (.cells #[.bool a0_0, .slice A0_1 l0_1.length c0_1, .slice A0_2 l0_2.length c0_2] 50 (0, 0))) := ⟨h1_⟩
   replace BK1267 : Yt (w32.heap[gb1267]? = some (.cells #[.bool a1_0, .slice A1_1 l1_1.length c1_1, .slice A1_2 l1_2.length c1_2] 50 (0, 0))) := ⟨h2_⟩
   replace HB : Yt (Below w.heap.size w w32) := ⟨h3_⟩
   clear h0_ h1_ h2_ h3_
   have hHeld : w32.cell? ⟨gb1266, 0, none⟩ = some (.bool a0_0) ∧ w32.cell? ⟨gb1266, 1, none⟩ = some (.slice A0_1 l0_1.length c0_1) ∧ w32.cell? ⟨gb1266, 2, none⟩ = some (.slice A0_2 l0_2.length c0_2) ∧ w32.cell? ⟨gb1267, 0, none⟩ = some (.bool a1_0) ∧ w32.cell? ⟨gb1267, 1, none⟩ = some (.slice A1_1 l1_1.length c1_1) ∧ w32.cell? ⟨gb1267, 2, none⟩ = some (.slice A1_2 l1_2.length c1_2) := hS_
   refine norm_ (a' := ?_) ?_ ?_
   rotate_left
   ·simp only [putAll, Act.put, List.setIfInBounds_toArray, List.set_cons_zero, List.set_cons_succ]
    rfl
   refine two_ (i := 6) (j := 14) (Ni := some 20) (Nj := some 7) #[true, true, true, true, true, true, true, true, true, false, false, false, false, false, false, false, false] #[true, true, true, true, true, true, false, true, true, false, false, false, false, false, true, false, false] rfl rfl rfl rfl (two_of HT_.out Qa8) (by decide) (by decide) (fun K hK => ?_) (fun K hK => ?_)
   ·skip
    refine Kd.R_lit_step (Kd.int .u32) _ 47 ?hg (N := 20) ?hd (xs := ([] : List Int)) (inner := []) (ok := fun _ => True) (okp := fun _ => True) ?hr ?hp (fun _ hk => hk) trivial (Below.refl _ _) (Nat.le_refl _) (by simp) ?_; (case hd => rfl); (case hg => rfl); (case hr => exact Qa9); (case hp => exact (Reps.none _ _))
    intro v1276 w33 ho34 hb hg_ hnew_
    clear hg_ hnew_
    (first | rw [← Ny1275.out] at ho34 | (simp only [Int.reduceToNat] at ho34; rw [← Ny1275.out] at ho34))
    have HO1277 := Yt.mk (Kd.Yb (Kd.Ya ho34 (Kd.R_lt (Qr1 HO1274.out))) (Zk (Qa0)))
    replace HO1274 := Yt.mk (Kd.Yf (Qr1 HO1274.out) (Kd.Zw ho34) hb)
    replace BK1266 := Yt.mk (Zq (g := gb1266) (o := .cells #[.bool a0_0, .slice A0_1 l0_1.length c0_1, .slice A0_2 l0_2.length c0_2] 50 (0, 0)) (Qr12 BK1266.out) hb)
    replace BK1267 := Yt.mk (Zq (g := gb1267) (o := .cells #[.bool a1_0, .slice A1_1 l1_1.length c1_1, .slice A1_2 l1_2.length c1_2] 50 (0, 0)) (Qr12 BK1267.out) hb)
    replace HB := Yt.mk (Zm (Qa0) hb)
    clear hb ho34
    refine hK.out _ _ ⟨(Zl BK1266.out 0).trans rfl, (Zl BK1266.out 1).trans rfl, (Zl BK1266.out 2).trans rfl, (Zl BK1267.out 0).trans rfl, (Zl BK1267.out 1).trans rfl, (Zl BK1267.out 2).trans rfl⟩ (fun hHeld => ?_)
    clear hK K
    refine norm_ (a' := ?_) ?_ ?_
    rotate_left
    ·show Act.put _ (some 20) _ = _
     simp only [Act.put, List.setIfInBounds_toArray, List.set_cons_zero, List.set_cons_succ, Yi, Yj]
     rfl
    exact norm_ Qa14 (hJ2_5_6 (v1270, v1273, v1276) _ ⟨hHeld, (by (with_reducible repeat (first | apply Kd.Zf | apply Kd.Ze | apply Kd.Zj)); exact Kd.Zv HO1274.out (fun _ hk => hk.2)), (by (with_reducible repeat (first | apply Kd.Zf | apply Kd.Ze | apply Kd.Zj)); exact Kd.Zv HO1277.out (fun _ hk => hk.2)), (Qr12 BK1266.out), (Qr12 BK1267.out), (Qa0)⟩)
   skip
   refine box_step ?hg (N := 7) ?hd (cs := #[.bool false, .slice none 0 0, .slice none 0 0]) (t := 50) ?hr ?_; (case hd => rfl); (case hg => rfl); (case hr => exact Qa9)
   intro gb1289 hg w33 hbox hb
   replace HO1274 := Yt.mk (Kd.Yd (Qr1 HO1274.out) hb)
   have BK1289 := Yt.mk (hbox)
   have GW1289 := Yt.mk ((by rw [hg]; exact (Zk (Qa0)) : w.heap.size ≤ gb1289))
   have GE1289 := Yt.mk ((by rw [hg]; exact (Zk (Qa0)) : w.heap.size ≤ gb1289))
   replace HB := Yt.mk (Zm (Qa0) hb)
   have NB1266_1289 := Yt.mk ((by rw [hg]; exact Nat.ne_of_lt (blk_lt (g := gb1266) (o := .cells #[.bool a0_0, .slice A0_1 l0_1.length c0_1, .slice A0_2 l0_2.length c0_2] 50 (0, 0)) (Qr12 BK1266.out)) : gb1266 ≠ gb1289))
   have NB1289_1266 := Yt.mk ((by rw [hg]; exact Nat.ne_of_gt (blk_lt (g := gb1266) (o := .cells #[.bool a0_0, .slice A0_1 l0_1.length c0_1, .slice A0_2 l0_2.length c0_2] 50 (0, 0)) (Qr12 BK1266.out)) : gb1289 ≠ gb1266))
   replace BK1266 := Yt.mk (Zq (g := gb1266) (o := .cells #[.bool a0_0, .slice A0_1 l0_1.length c0_1, .slice A0_2 l0_2.length c0_2] 50 (0, 0)) (Qr12 BK1266.out) hb)
   have NB1267_1289 := Yt.mk ((by rw [hg]; exact Nat.ne_of_lt (blk_lt (g := gb1267) (o := .cells #[.bool a1_0, .slice A1_1 l1_1.length c1_1, .slice A1_2 l1_2.length c1_2] 50 (0, 0)) (Qr12 BK1267.out)) : gb1267 ≠ gb1289))
   have NB1289_1267 := Yt.mk ((by rw [hg]; exact Nat.ne_of_gt (blk_lt (g := gb1267) (o := .cells #[.bool a1_0, .slice A1_1 l1_1.length c1_1, .slice A1_2 l1_2.length c1_2] 50 (0, 0)) (Qr12 BK1267.out)) : gb1289 ≠ gb1267))
   replace BK1267 := Yt.mk (Zq (g := gb1267) (o := .cells #[.bool a1_0, .slice A1_1 l1_1.length c1_1, .slice A1_2 l1_2.length c1_2] 50 (0, 0)) (Qr12 BK1267.out) hb)
   clear hb hbox hg
   refine hK.out _ _ ⟨(Zl BK1266.out 0).trans rfl, (Zl BK1266.out 1).trans rfl, (Zl BK1266.out 2).trans rfl, (Zl BK1267.out 0).trans rfl, (Zl BK1267.out 1).trans rfl, (Zl BK1267.out 2).trans rfl⟩ (fun hHeld => ?_)
   clear hK K
   refine norm_ (a' := ?_) ?_ ?_
   rotate_left
   ·show Act.put _ (some 7) _ = _
    simp only [Act.put, List.setIfInBounds_toArray, List.set_cons_zero, List.set_cons_succ, Yi, Yj]
    rfl
   exact norm_ Qa14 (hJ2_5_14 (v1270, v1273, gb1289) _ ⟨hHeld, (Qr1 HO1274.out), (Qr12 BK1266.out), (Qr12 BK1267.out), (Qr12 BK1289.out), GW1289.out, GE1289.out, NB1266_1289.out, NB1289_1266.out, NB1267_1289.out, NB1289_1267.out, (Qa0)⟩)
  intro hJ2_5
  refine join_ (σ := Value × Value) 9 #[true, true, true, true, true, false, true, true, true, false, false, false, false, false, false, false, false] (fun s_ => [(16, s_.1), (20, s_.2)]) (fun s_ w' => (w'.cell? ⟨gb1266, 0, none⟩ = some (.bool a0_0) ∧ w'.cell? ⟨gb1266, 1, none⟩ = some (.slice A0_1 l0_1.length c0_1) ∧ w'.cell? ⟨gb1266, 2, none⟩ = some (.slice A0_2 l0_2.length c0_2) ∧ w'.cell? ⟨gb1267, 0, none⟩ = some (.bool a1_0) ∧ w'.cell? ⟨gb1267, 1, none⟩ = some (.slice A1_1 l1_1.length c1_1) ∧ w'.cell? ⟨gb1267, 2, none⟩ = some (.slice A1_2 l1_2.length c1_2)) ∧ (Kd.R (Kd.int .u32) 47 w' w.heap.size (fun k_ => some k_ ≠ (s_.2 : Value).ownBlock) s_.1 y1269) ∧ (Kd.R (Kd.int .u32) 47 w' w.heap.size (fun k_ => some k_ ≠ (s_.1 : Value).ownBlock) s_.2 y1275) ∧ (w'.heap[gb1266]? = some (.cells #[.bool a0_0, .slice A0_1 l0_1.length c0_1, .slice A0_2 l0_2.length c0_2] 50 (0, 0))) ∧ (w'.heap[gb1267]? = some (.cells #[.bool a1_0, .slice A1_1 l1_1.length c1_1, .slice A1_2 l1_2.length c1_2] 50 (0, 0))) ∧ (Below w.heap.size w w')) ?_ ?_
  ·skip
   rintro ⟨v1270, v1276⟩ w33 ⟨hS_, h0_, h1_, h2_, h3_, h4_⟩
   have HO1271 : Yt (Kd.R (Kd.int .u32) 47 w33 w.heap.size (fun k_ => some k_ ≠ (v1276 : Value).ownBlock) v1270 y1269) := ⟨h0_⟩
   have HO1277 : Yt (Kd.R (Kd.int .u32) 47 w33 w.heap.size (fun k_ => some k_ ≠ (v1270 : Value).ownBlock) v1276 y1275) := ⟨h1_⟩
   replace BK1266 : Yt (w33.heap[gb1266]? = some (.cells #[.bool a0_0, .slice A0_1 l0_1.length c0_1, .slice A0_2 l0_2.length c0_2] 50 (0, 0))) := ⟨h2_⟩
   replace BK1267 : Yt (w33.heap[gb1267]? = some (.cells #[.bool a1_0, .slice A1_1 l1_1.length c1_1, .slice A1_2 l1_2.length c1_2] 50 (0, 0))) := ⟨h3_⟩
   replace HB : Yt (Below w.heap.size w w33) := ⟨h4_⟩
   clear h0_ h1_ h2_ h3_ h4_
   have hHeld : w33.cell? ⟨gb1266, 0, none⟩ = some (.bool a0_0) ∧ w33.cell? ⟨gb1266, 1, none⟩ = some (.slice A0_1 l0_1.length c0_1) ∧ w33.cell? ⟨gb1266, 2, none⟩ = some (.slice A0_2 l0_2.length c0_2) ∧ w33.cell? ⟨gb1267, 0, none⟩ = some (.bool a1_0) ∧ w33.cell? ⟨gb1267, 1, none⟩ = some (.slice A1_1 l1_1.length c1_1) ∧ w33.cell? ⟨gb1267, 2, none⟩ = some (.slice A1_2 l1_2.length c1_2) := hS_
   refine norm_ (a' := ?_) ?_ ?_
   rotate_left
   ·simp only [putAll, Act.put, List.setIfInBounds_toArray, List.set_cons_zero, List.set_cons_succ]
    rfl
   refine two_ (i := 5) (j := 14) (Ni := some 19) (Nj := some 7) #[true, true, true, true, true, true, true, true, true, false, false, false, false, false, false, false, false] #[true, true, true, true, true, false, true, true, true, false, false, false, false, false, true, false, false] rfl rfl rfl rfl (two_of HT_.out Qa8) (by decide) (by decide) (fun K hK => ?_) (fun K hK => ?_)
   ·skip
    refine Kd.R_append_rows_step (Kd.int .u32) (w0 := w) w.heap.size (by rfl) (.tmp 16) (.tmp 18) 22 47 (.int .u32 0) 4 rfl Try.underlying22 info47 rfl (by decide) (by omega) v1270 y1269 l0_1 _ _ _ (fun k_ => some k_ ≠ (v1276 : Value).ownBlock) (fun _ => False) rfl rfl ?aO ?aR (fun _ _ h => h) (fun _ h => h.elim) ?aF ?aB ?aS ?aL ?_
    (case aR => exact Qe11 (Kd.Ys HR0_1.out HB.out))
    (case aB => exact (Qa0))
    (case aF => exact (fun k_ hk => Kd.fresh' (Kd.R_lt (Qr1 HO1277.out)) k_ hk))
    (case aO => exact (Qr1 HO1271.out))
    (case aS => exact (Zk (Qa0)))
    (case aL => have := LMc6.out; omega)
    intro v1273 w34 ho hb hg hat
    rw [← Ny1272.out] at ho
    replace BK1266 := Yt.mk (blk_grown (g := gb1266) (o := .cells #[.bool a0_0, .slice A0_1 l0_1.length c0_1, .slice A0_2 l0_2.length c0_2] 50 (0, 0)) (Qr12 BK1266.out) hg (Kd.R_ne HO1271.out BK1266.out (by decide)))
    replace BK1267 := Yt.mk (blk_grown (g := gb1267) (o := .cells #[.bool a1_0, .slice A1_1 l1_1.length c1_1, .slice A1_2 l1_2.length c1_2] 50 (0, 0)) (Qr12 BK1267.out) hg (Kd.R_ne HO1271.out BK1267.out (by decide)))
    replace HO1277 := Yt.mk (Kd.R_after (ok := (fun _ => True)) (by (with_reducible repeat (first | apply Kd.Zf | apply Kd.Ze | apply Kd.Zj)); exact Kd.Zv HO1277.out (fun _ hk => ⟨trivial, hk⟩)) hg hat)
    replace HB := Yt.mk (hb)
    have HO1274 := Yt.mk (ho)
    clear HO1271
    clear ho hb hg hat
    refine hK.out _ _ ⟨(Zl BK1266.out 0).trans rfl, (Zl BK1266.out 1).trans rfl, (Zl BK1266.out 2).trans rfl, (Zl BK1267.out 0).trans rfl, (Zl BK1267.out 1).trans rfl, (Zl BK1267.out 2).trans rfl⟩ (fun hHeld => ?_)
    clear hK K
    refine norm_ (a' := ?_) ?_ ?_
    rotate_left
    ·show Act.put _ (some 19) _ = _
     simp only [Act.put, List.setIfInBounds_toArray, List.set_cons_zero, List.set_cons_succ, Yi, Yj]
     rfl
    exact norm_ Qa14 (hJ2_5_6 (v1270, v1273, v1276) _ ⟨hHeld, (Qr1 HO1274.out), (by (with_reducible repeat (first | apply Kd.Zf | apply Kd.Ze | apply Kd.Zj)); exact Kd.Zv HO1277.out (fun _ hk => hk.2)), (Qr12 BK1266.out), (Qr12 BK1267.out), (Qa0)⟩)
   skip
   refine box_step ?hg (N := 7) ?hd (cs := #[.bool false, .slice none 0 0, .slice none 0 0]) (t := 50) ?hr ?_; (case hd => rfl); (case hg => rfl); (case hr => exact Qa9)
   intro gb1289 hg w34 hbox hb
   replace HO1271 := Yt.mk (Kd.Yd (Qr1 HO1271.out) hb)
   replace HO1277 := Yt.mk (Kd.Yd (Qr1 HO1277.out) hb)
   have BK1289 := Yt.mk (hbox)
   have GW1289 := Yt.mk ((by rw [hg]; exact (Zk (Qa0)) : w.heap.size ≤ gb1289))
   have GE1289 := Yt.mk ((by rw [hg]; exact (Zk (Qa0)) : w.heap.size ≤ gb1289))
   replace HB := Yt.mk (Zm (Qa0) hb)
   have NB1266_1289 := Yt.mk ((by rw [hg]; exact Nat.ne_of_lt (blk_lt (g := gb1266) (o := .cells #[.bool a0_0, .slice A0_1 l0_1.length c0_1, .slice A0_2 l0_2.length c0_2] 50 (0, 0)) (Qr12 BK1266.out)) : gb1266 ≠ gb1289))
   have NB1289_1266 := Yt.mk ((by rw [hg]; exact Nat.ne_of_gt (blk_lt (g := gb1266) (o := .cells #[.bool a0_0, .slice A0_1 l0_1.length c0_1, .slice A0_2 l0_2.length c0_2] 50 (0, 0)) (Qr12 BK1266.out)) : gb1289 ≠ gb1266))
   replace BK1266 := Yt.mk (Zq (g := gb1266) (o := .cells #[.bool a0_0, .slice A0_1 l0_1.length c0_1, .slice A0_2 l0_2.length c0_2] 50 (0, 0)) (Qr12 BK1266.out) hb)
   have NB1267_1289 := Yt.mk ((by rw [hg]; exact Nat.ne_of_lt (blk_lt (g := gb1267) (o := .cells #[.bool a1_0, .slice A1_1 l1_1.length c1_1, .slice A1_2 l1_2.length c1_2] 50 (0, 0)) (Qr12 BK1267.out)) : gb1267 ≠ gb1289))
   have NB1289_1267 := Yt.mk ((by rw [hg]; exact Nat.ne_of_gt (blk_lt (g := gb1267) (o := .cells #[.bool a1_0, .slice A1_1 l1_1.length c1_1, .slice A1_2 l1_2.length c1_2] 50 (0, 0)) (Qr12 BK1267.out)) : gb1289 ≠ gb1267))
   replace BK1267 := Yt.mk (Zq (g := gb1267) (o := .cells #[.bool a1_0, .slice A1_1 l1_1.length c1_1, .slice A1_2 l1_2.length c1_2] 50 (0, 0)) (Qr12 BK1267.out) hb)
   clear hb hbox hg
   refine hK.out _ _ ⟨(Zl BK1266.out 0).trans rfl, (Zl BK1266.out 1).trans rfl, (Zl BK1266.out 2).trans rfl, (Zl BK1267.out 0).trans rfl, (Zl BK1267.out 1).trans rfl, (Zl BK1267.out 2).trans rfl⟩ (fun hHeld => ?_)
   clear hK K
   refine norm_ (a' := ?_) ?_ ?_
   rotate_left
   ·show Act.put _ (some 7) _ = _
    simp only [Act.put, List.setIfInBounds_toArray, List.set_cons_zero, List.set_cons_succ, Yi, Yj]
    rfl
   exact norm_ Qa14 (hJ2_6_14 (v1270, v1276, gb1289) _ ⟨hHeld, (Qr1 HO1271.out), (Qr1 HO1277.out), (Qr12 BK1266.out), (Qr12 BK1267.out), (Qr12 BK1289.out), GW1289.out, GE1289.out, NB1266_1289.out, NB1289_1266.out, NB1267_1289.out, NB1289_1267.out, (Qa0)⟩)
  intro hJ2_6
  refine join_ (σ := Value × Nat) 9 #[true, true, true, true, true, false, false, true, true, false, false, false, false, false, true, false, false] (fun s_ => [(16, s_.1), (7, .pointer (some ⟨s_.2, 0, none⟩))]) (fun s_ w' => (w'.cell? ⟨gb1266, 0, none⟩ = some (.bool a0_0) ∧ w'.cell? ⟨gb1266, 1, none⟩ = some (.slice A0_1 l0_1.length c0_1) ∧ w'.cell? ⟨gb1266, 2, none⟩ = some (.slice A0_2 l0_2.length c0_2) ∧ w'.cell? ⟨gb1267, 0, none⟩ = some (.bool a1_0) ∧ w'.cell? ⟨gb1267, 1, none⟩ = some (.slice A1_1 l1_1.length c1_1) ∧ w'.cell? ⟨gb1267, 2, none⟩ = some (.slice A1_2 l1_2.length c1_2)) ∧ (Kd.R (Kd.int .u32) 47 w' w.heap.size (fun _ => True) s_.1 y1269) ∧ (w'.heap[gb1266]? = some (.cells #[.bool a0_0, .slice A0_1 l0_1.length c0_1, .slice A0_2 l0_2.length c0_2] 50 (0, 0))) ∧ (w'.heap[gb1267]? = some (.cells #[.bool a1_0, .slice A1_1 l1_1.length c1_1, .slice A1_2 l1_2.length c1_2] 50 (0, 0))) ∧ (w'.heap[s_.2]? = some (.cells #[.bool false, .slice none 0 0, .slice none 0 0] 50 (0, 0))) ∧ (w.heap.size ≤ s_.2) ∧ (w.heap.size ≤ s_.2) ∧ (gb1266 ≠ s_.2) ∧ (s_.2 ≠ gb1266) ∧ (gb1267 ≠ s_.2) ∧ (s_.2 ≠ gb1267) ∧ (Below w.heap.size w w')) ?_ ?_
  ·skip
   rintro ⟨v1270, gb1289⟩ w32 ⟨hS_, h0_, h1_, h2_, h3_, h4_, h5_, h6_, h7_, h8_, h9_, h10_⟩
   have HO1271 : Yt (Kd.R (Kd.int .u32) 47 w32 w.heap.size (fun _ => True) v1270 y1269) := ⟨h0_⟩
   replace BK1266 : Yt (w32.heap[gb1266]? = some (.cells #[.bool a0_0, .slice A0_1 l0_1.length c0_1, .slice A0_2 l0_2.length c0_2] 50 (0, 0))) := ⟨h1_⟩
   replace BK1267 : Yt (w32.heap[gb1267]? = some (.cells #[.bool a1_0, .slice A1_1 l1_1.length c1_1, .slice A1_2 l1_2.length c1_2] 50 (0, 0))) := ⟨h2_⟩
   have BK1289 : Yt (w32.heap[gb1289]? = some (.cells #[.bool false, .slice none 0 0, .slice none 0 0] 50 (0, 0))) := ⟨h3_⟩
   have GW1289 : Yt (w.heap.size ≤ gb1289) := ⟨h4_⟩
   have GE1289 : Yt (w.heap.size ≤ gb1289) := ⟨h5_⟩
   have NB1266_1289 : Yt (gb1266 ≠ gb1289) := ⟨h6_⟩
   have NB1289_1266 : Yt (gb1289 ≠ gb1266) := ⟨h7_⟩
   have NB1267_1289 : Yt (gb1267 ≠ gb1289) := ⟨h8_⟩
   have NB1289_1267 : Yt (gb1289 ≠ gb1267) := ⟨h9_⟩
   replace HB : Yt (Below w.heap.size w w32) := ⟨h10_⟩
   clear h0_ h1_ h2_ h3_ h4_ h5_ h6_ h7_ h8_ h9_ h10_
   have hHeld : w32.cell? ⟨gb1266, 0, none⟩ = some (.bool a0_0) ∧ w32.cell? ⟨gb1266, 1, none⟩ = some (.slice A0_1 l0_1.length c0_1) ∧ w32.cell? ⟨gb1266, 2, none⟩ = some (.slice A0_2 l0_2.length c0_2) ∧ w32.cell? ⟨gb1267, 0, none⟩ = some (.bool a1_0) ∧ w32.cell? ⟨gb1267, 1, none⟩ = some (.slice A1_1 l1_1.length c1_1) ∧ w32.cell? ⟨gb1267, 2, none⟩ = some (.slice A1_2 l1_2.length c1_2) := hS_
   refine norm_ (a' := ?_) ?_ ?_
   rotate_left
   ·simp only [putAll, Act.put, List.setIfInBounds_toArray, List.set_cons_zero, List.set_cons_succ]
    rfl
   refine two_ (i := 5) (j := 6) (Ni := some 19) (Nj := some 20) #[true, true, true, true, true, true, false, true, true, false, false, false, false, false, true, false, false] #[true, true, true, true, true, false, true, true, true, false, false, false, false, false, true, false, false] rfl rfl rfl rfl (two_of HT_.out Qa8) (by decide) (by decide) (fun K hK => ?_) (fun K hK => ?_)
   rotate_left
   ·skip
    refine Kd.R_lit_step (Kd.int .u32) _ 47 ?hg (N := 20) ?hd (xs := ([] : List Int)) (inner := []) (ok := fun _ => True) (okp := fun _ => True) ?hr ?hp (fun _ hk => hk) trivial (Below.refl _ _) (Nat.le_refl _) (by simp) ?_; (case hd => rfl); (case hg => rfl); (case hr => exact Qa9); (case hp => exact (Reps.none _ _))
    intro v1276 w33 ho34 hb hg_ hnew_
    clear hg_ hnew_
    (first | rw [← Ny1275.out] at ho34 | (simp only [Int.reduceToNat] at ho34; rw [← Ny1275.out] at ho34))
    have HO1277 := Yt.mk (Kd.Yb (Kd.Ya ho34 (Kd.R_lt (Qr1 HO1271.out))) (Zk (Qa0)))
    replace HO1271 := Yt.mk (Kd.Yf (Qr1 HO1271.out) (Kd.Zw ho34) hb)
    replace BK1266 := Yt.mk (Zq (g := gb1266) (o := .cells #[.bool a0_0, .slice A0_1 l0_1.length c0_1, .slice A0_2 l0_2.length c0_2] 50 (0, 0)) (Qr12 BK1266.out) hb)
    replace BK1267 := Yt.mk (Zq (g := gb1267) (o := .cells #[.bool a1_0, .slice A1_1 l1_1.length c1_1, .slice A1_2 l1_2.length c1_2] 50 (0, 0)) (Qr12 BK1267.out) hb)
    replace BK1289 := Yt.mk (Zq (g := gb1289) (o := .cells #[.bool false, .slice none 0 0, .slice none 0 0] 50 (0, 0)) (Qr12 BK1289.out) hb)
    replace HB := Yt.mk (Zm (Qa0) hb)
    clear hb ho34
    refine hK.out _ _ ⟨(Zl BK1266.out 0).trans rfl, (Zl BK1266.out 1).trans rfl, (Zl BK1266.out 2).trans rfl, (Zl BK1267.out 0).trans rfl, (Zl BK1267.out 1).trans rfl, (Zl BK1267.out 2).trans rfl⟩ (fun hHeld => ?_)
    clear hK K
    refine norm_ (a' := ?_) ?_ ?_
    rotate_left
    ·show Act.put _ (some 20) _ = _
     simp only [Act.put, List.setIfInBounds_toArray, List.set_cons_zero, List.set_cons_succ, Yi, Yj]
     rfl
    exact norm_ Qa14 (hJ2_6_14 (v1270, v1276, gb1289) _ ⟨hHeld, (by (with_reducible repeat (first | apply Kd.Zf | apply Kd.Ze | apply Kd.Zj)); exact Kd.Zv HO1271.out (fun _ hk => hk.2)), (by (with_reducible repeat (first | apply Kd.Zf | apply Kd.Ze | apply Kd.Zj)); exact Kd.Zv HO1277.out (fun _ hk => hk.2)), (Qr12 BK1266.out), (Qr12 BK1267.out), (Qr12 BK1289.out), GW1289.out, GE1289.out, NB1266_1289.out, NB1289_1266.out, NB1267_1289.out, NB1289_1267.out, (Qa0)⟩)
   skip
   refine Kd.R_append_rows_step (Kd.int .u32) (w0 := w) w.heap.size (by rfl) (.tmp 16) (.tmp 18) 22 47 (.int .u32 0) 4 rfl Try.underlying22 info47 rfl (by decide) (by omega) v1270 y1269 l0_1 _ _ _ (fun _ => True) (fun _ => False) rfl rfl ?aO ?aR (fun _ _ h => h) (fun _ h => h.elim) ?aF ?aB ?aS ?aL ?_
   (case aR => exact Qe11 (Kd.Ys HR0_1.out HB.out))
   (case aB => exact (Qa0))
   (case aF => exact (fun _ _ => trivial))
   (case aO => exact (Qr1 HO1271.out))
   (case aS => exact (Zk (Qa0)))
   (case aL => have := LMc6.out; omega)
   intro v1273 w33 ho hb hg hat
   rw [← Ny1272.out] at ho
   replace BK1266 := Yt.mk (blk_grown (g := gb1266) (o := .cells #[.bool a0_0, .slice A0_1 l0_1.length c0_1, .slice A0_2 l0_2.length c0_2] 50 (0, 0)) (Qr12 BK1266.out) hg (Kd.R_ne HO1271.out BK1266.out (by decide)))
   replace BK1267 := Yt.mk (blk_grown (g := gb1267) (o := .cells #[.bool a1_0, .slice A1_1 l1_1.length c1_1, .slice A1_2 l1_2.length c1_2] 50 (0, 0)) (Qr12 BK1267.out) hg (Kd.R_ne HO1271.out BK1267.out (by decide)))
   replace BK1289 := Yt.mk (blk_grown (g := gb1289) (o := .cells #[.bool false, .slice none 0 0, .slice none 0 0] 50 (0, 0)) (Qr12 BK1289.out) hg (Kd.R_ne HO1271.out BK1289.out (by decide)))
   replace HB := Yt.mk (hb)
   have HO1274 := Yt.mk (ho)
   clear HO1271
   clear ho hb hg hat
   refine hK.out _ _ ⟨(Zl BK1266.out 0).trans rfl, (Zl BK1266.out 1).trans rfl, (Zl BK1266.out 2).trans rfl, (Zl BK1267.out 0).trans rfl, (Zl BK1267.out 1).trans rfl, (Zl BK1267.out 2).trans rfl⟩ (fun hHeld => ?_)
   clear hK K
   refine norm_ (a' := ?_) ?_ ?_
   rotate_left
   ·show Act.put _ (some 19) _ = _
    simp only [Act.put, List.setIfInBounds_toArray, List.set_cons_zero, List.set_cons_succ, Yi, Yj]
    rfl
   exact norm_ Qa14 (hJ2_5_14 (v1270, v1273, gb1289) _ ⟨hHeld, (Qr1 HO1274.out), (Qr12 BK1266.out), (Qr12 BK1267.out), (Qr12 BK1289.out), GW1289.out, GE1289.out, NB1266_1289.out, NB1289_1266.out, NB1267_1289.out, NB1289_1267.out, (Qa0)⟩)
  intro hJ2_14
  refine join_ (σ := Value × Nat) 9 #[true, true, false, true, true, false, true, true, true, false, false, false, false, false, true, false, false] (fun s_ => [(20, s_.1), (7, .pointer (some ⟨s_.2, 0, none⟩))]) (fun s_ w' => (w'.cell? ⟨gb1266, 0, none⟩ = some (.bool a0_0) ∧ w'.cell? ⟨gb1266, 1, none⟩ = some (.slice A0_1 l0_1.length c0_1) ∧ w'.cell? ⟨gb1266, 2, none⟩ = some (.slice A0_2 l0_2.length c0_2) ∧ w'.cell? ⟨gb1267, 0, none⟩ = some (.bool a1_0) ∧ w'.cell? ⟨gb1267, 1, none⟩ = some (.slice A1_1 l1_1.length c1_1) ∧ w'.cell? ⟨gb1267, 2, none⟩ = some (.slice A1_2 l1_2.length c1_2)) ∧ (Kd.R (Kd.int .u32) 47 w' w.heap.size (fun _ => True) s_.1 y1275) ∧ (w'.heap[gb1266]? = some (.cells #[.bool a0_0, .slice A0_1 l0_1.length c0_1, .slice A0_2 l0_2.length c0_2] 50 (0, 0))) ∧ (w'.heap[gb1267]? = some (.cells #[.bool a1_0, .slice A1_1 l1_1.length c1_1, .slice A1_2 l1_2.length c1_2] 50 (0, 0))) ∧ (w'.heap[s_.2]? = some (.cells #[.bool false, .slice none 0 0, .slice none 0 0] 50 (0, 0))) ∧ (w.heap.size ≤ s_.2) ∧ (w.heap.size ≤ s_.2) ∧ (gb1266 ≠ s_.2) ∧ (s_.2 ≠ gb1266) ∧ (gb1267 ≠ s_.2) ∧ (s_.2 ≠ gb1267) ∧ (Below w.heap.size w w')) ?_ ?_
  ·skip
   rintro ⟨v1276, gb1289⟩ w32 ⟨hS_, h0_, h1_, h2_, h3_, h4_, h5_, h6_, h7_, h8_, h9_, h10_⟩
   have HO1277 : Yt (Kd.R (Kd.int .u32) 47 w32 w.heap.size (fun _ => True) v1276 y1275) := ⟨h0_⟩
   replace BK1266 : Yt (w32.heap[gb1266]? = some (.cells #[.bool a0_0, .slice A0_1 l0_1.length c0_1, .slice A0_2 l0_2.length c0_2] 50 (0, 0))) := ⟨h1_⟩
   replace BK1267 : Yt (w32.heap[gb1267]? = some (.cells #[.bool a1_0, .slice A1_1 l1_1.length c1_1, .slice A1_2 l1_2.length c1_2] 50 (0, 0))) := ⟨h2_⟩
   have BK1289 : Yt (w32.heap[gb1289]? = some (.cells #[.bool false, .slice none 0 0, .slice none 0 0] 50 (0, 0))) := ⟨h3_⟩
   have GW1289 : Yt (w.heap.size ≤ gb1289) := ⟨h4_⟩
   have GE1289 : Yt (w.heap.size ≤ gb1289) := ⟨h5_⟩
   have NB1266_1289 : Yt (gb1266 ≠ gb1289) := ⟨h6_⟩
   have NB1289_1266 : Yt (gb1289 ≠ gb1266) := ⟨h7_⟩
   have NB1267_1289 : Yt (gb1267 ≠ gb1289) := ⟨h8_⟩
   have NB1289_1267 : Yt (gb1289 ≠ gb1267) := ⟨h9_⟩
   replace HB : Yt (Below w.heap.size w w32) := ⟨h10_⟩
   clear h0_ h1_ h2_ h3_ h4_ h5_ h6_ h7_ h8_ h9_ h10_
   have hHeld : w32.cell? ⟨gb1266, 0, none⟩ = some (.bool a0_0) ∧ w32.cell? ⟨gb1266, 1, none⟩ = some (.slice A0_1 l0_1.length c0_1) ∧ w32.cell? ⟨gb1266, 2, none⟩ = some (.slice A0_2 l0_2.length c0_2) ∧ w32.cell? ⟨gb1267, 0, none⟩ = some (.bool a1_0) ∧ w32.cell? ⟨gb1267, 1, none⟩ = some (.slice A1_1 l1_1.length c1_1) ∧ w32.cell? ⟨gb1267, 2, none⟩ = some (.slice A1_2 l1_2.length c1_2) := hS_
   refine norm_ (a' := ?_) ?_ ?_
   rotate_left
   ·simp only [putAll, Act.put, List.setIfInBounds_toArray, List.set_cons_zero, List.set_cons_succ]
    rfl
   refine one_ (i := 2) (N := some 16) #[true, true, true, true, true, false, true, true, true, false, false, false, false, false, true, false, false] rfl rfl (one_of HT_.out Qa8) (by decide) (fun K hK => ?_)
   refine Kd.R_lit_step (Kd.int .u32) _ 47 ?hg (N := 16) ?hd (xs := ([] : List Int)) (inner := []) (ok := fun _ => True) (okp := fun _ => True) ?hr ?hp (fun _ hk => hk) trivial (Below.refl _ _) (Nat.le_refl _) (by simp) ?_; (case hd => rfl); (case hg => rfl); (case hr => exact Qa9); (case hp => exact (Reps.none _ _))
   intro v1270 w33 ho34 hb hg_ hnew_
   clear hg_ hnew_
   (first | rw [← Ny1269.out] at ho34 | (simp only [Int.reduceToNat] at ho34; rw [← Ny1269.out] at ho34))
   have HO1271 := Yt.mk (Kd.Yb (Kd.Ya ho34 (Kd.R_lt (Qr1 HO1277.out))) (Zk (Qa0)))
   replace HO1277 := Yt.mk (Kd.Yf (Qr1 HO1277.out) (Kd.Zw ho34) hb)
   replace BK1266 := Yt.mk (Zq (g := gb1266) (o := .cells #[.bool a0_0, .slice A0_1 l0_1.length c0_1, .slice A0_2 l0_2.length c0_2] 50 (0, 0)) (Qr12 BK1266.out) hb)
   replace BK1267 := Yt.mk (Zq (g := gb1267) (o := .cells #[.bool a1_0, .slice A1_1 l1_1.length c1_1, .slice A1_2 l1_2.length c1_2] 50 (0, 0)) (Qr12 BK1267.out) hb)
   replace BK1289 := Yt.mk (Zq (g := gb1289) (o := .cells #[.bool false, .slice none 0 0, .slice none 0 0] 50 (0, 0)) (Qr12 BK1289.out) hb)
   replace HB := Yt.mk (Zm (Qa0) hb)
   clear hb ho34
   refine hK.out _ _ ⟨(Zl BK1266.out 0).trans rfl, (Zl BK1266.out 1).trans rfl, (Zl BK1266.out 2).trans rfl, (Zl BK1267.out 0).trans rfl, (Zl BK1267.out 1).trans rfl, (Zl BK1267.out 2).trans rfl⟩ (fun hHeld => ?_)
   clear hK K
   refine norm_ (a' := ?_) ?_ ?_
   rotate_left
   ·show Act.put _ (some 16) _ = _
    simp only [Act.put, List.setIfInBounds_toArray, List.set_cons_zero, List.set_cons_succ, Yi, Yj]
    rfl
   exact norm_ Qa14 (hJ2_6_14 (v1270, v1276, gb1289) _ ⟨hHeld, (by (with_reducible repeat (first | apply Kd.Zf | apply Kd.Ze | apply Kd.Zj)); exact Kd.Zv HO1271.out (fun _ hk => hk.2)), (by (with_reducible repeat (first | apply Kd.Zf | apply Kd.Ze | apply Kd.Zj)); exact Kd.Zv HO1277.out (fun _ hk => hk.2)), (Qr12 BK1266.out), (Qr12 BK1267.out), (Qr12 BK1289.out), GW1289.out, GE1289.out, NB1266_1289.out, NB1289_1266.out, NB1267_1289.out, NB1289_1267.out, (Qa0)⟩)
  intro hJ6_14
  refine join_ (σ := Value) 10 #[true, true, true, true, true, false, false, true, true, false, false, false, false, false, false, false, false] (fun s_ => [(16, s_)]) (fun s_ w' => (w'.cell? ⟨gb1266, 0, none⟩ = some (.bool a0_0) ∧ w'.cell? ⟨gb1266, 1, none⟩ = some (.slice A0_1 l0_1.length c0_1) ∧ w'.cell? ⟨gb1266, 2, none⟩ = some (.slice A0_2 l0_2.length c0_2) ∧ w'.cell? ⟨gb1267, 0, none⟩ = some (.bool a1_0) ∧ w'.cell? ⟨gb1267, 1, none⟩ = some (.slice A1_1 l1_1.length c1_1) ∧ w'.cell? ⟨gb1267, 2, none⟩ = some (.slice A1_2 l1_2.length c1_2)) ∧ (Kd.R (Kd.int .u32) 47 w' w.heap.size (fun _ => True) s_ y1269) ∧ (w'.heap[gb1266]? = some (.cells #[.bool a0_0, .slice A0_1 l0_1.length c0_1, .slice A0_2 l0_2.length c0_2] 50 (0, 0))) ∧ (w'.heap[gb1267]? = some (.cells #[.bool a1_0, .slice A1_1 l1_1.length c1_1, .slice A1_2 l1_2.length c1_2] 50 (0, 0))) ∧ (Below w.heap.size w w')) ?_ ?_
  ·skip
   rintro v1270 w31 ⟨hS_, h0_, h1_, h2_, h3_⟩
   have HO1271 : Yt (Kd.R (Kd.int .u32) 47 w31 w.heap.size (fun _ => True) v1270 y1269) := ⟨h0_⟩
   replace BK1266 : Yt (w31.heap[gb1266]? = some (.cells #[.bool a0_0, .slice A0_1 l0_1.length c0_1, .slice A0_2 l0_2.length c0_2] 50 (0, 0))) := ⟨h1_⟩
   replace BK1267 : Yt (w31.heap[gb1267]? = some (.cells #[.bool a1_0, .slice A1_1 l1_1.length c1_1, .slice A1_2 l1_2.length c1_2] 50 (0, 0))) := ⟨h2_⟩
   replace HB : Yt (Below w.heap.size w w31) := ⟨h3_⟩
   clear h0_ h1_ h2_ h3_
   have hHeld : w31.cell? ⟨gb1266, 0, none⟩ = some (.bool a0_0) ∧ w31.cell? ⟨gb1266, 1, none⟩ = some (.slice A0_1 l0_1.length c0_1) ∧ w31.cell? ⟨gb1266, 2, none⟩ = some (.slice A0_2 l0_2.length c0_2) ∧ w31.cell? ⟨gb1267, 0, none⟩ = some (.bool a1_0) ∧ w31.cell? ⟨gb1267, 1, none⟩ = some (.slice A1_1 l1_1.length c1_1) ∧ w31.cell? ⟨gb1267, 2, none⟩ = some (.slice A1_2 l1_2.length c1_2) := hS_
   refine norm_ (a' := ?_) ?_ ?_
   rotate_left
   ·simp only [putAll, Act.put, List.setIfInBounds_toArray, List.set_cons_zero, List.set_cons_succ]
    rfl
   refine three_ (i := 5) (j := 6) (k := 14) (Ni := some 19) (Nj := some 20) (Nk := some 7) #[true, true, true, true, true, true, false, true, true, false, false, false, false, false, false, false, false] #[true, true, true, true, true, false, true, true, true, false, false, false, false, false, false, false, false] #[true, true, true, true, true, false, false, true, true, false, false, false, false, false, true, false, false] rfl rfl rfl rfl rfl rfl (three_of HT_.out Qa8) (by decide) (by decide) (by decide) (fun K hK => ?_) (fun K hK => ?_) (fun K hK => ?_)
   ·skip
    refine Kd.R_append_rows_step (Kd.int .u32) (w0 := w) w.heap.size (by rfl) (.tmp 16) (.tmp 18) 22 47 (.int .u32 0) 4 rfl Try.underlying22 info47 rfl (by decide) (by omega) v1270 y1269 l0_1 _ _ _ (fun _ => True) (fun _ => False) rfl rfl ?aO ?aR (fun _ _ h => h) (fun _ h => h.elim) ?aF ?aB ?aS ?aL ?_
    (case aR => exact Qe11 (Kd.Ys HR0_1.out HB.out))
    (case aB => exact (Qa0))
    (case aF => exact (fun _ _ => trivial))
    (case aO => exact (Qr1 HO1271.out))
    (case aS => exact (Zk (Qa0)))
    (case aL => have := LMc6.out; omega)
    intro v1273 w32 ho hb hg hat
    rw [← Ny1272.out] at ho
    replace BK1266 := Yt.mk (blk_grown (g := gb1266) (o := .cells #[.bool a0_0, .slice A0_1 l0_1.length c0_1, .slice A0_2 l0_2.length c0_2] 50 (0, 0)) (Qr12 BK1266.out) hg (Kd.R_ne HO1271.out BK1266.out (by decide)))
    replace BK1267 := Yt.mk (blk_grown (g := gb1267) (o := .cells #[.bool a1_0, .slice A1_1 l1_1.length c1_1, .slice A1_2 l1_2.length c1_2] 50 (0, 0)) (Qr12 BK1267.out) hg (Kd.R_ne HO1271.out BK1267.out (by decide)))
    replace HB := Yt.mk (hb)
    have HO1274 := Yt.mk (ho)
    clear HO1271
    clear ho hb hg hat
    refine hK.out _ _ ⟨(Zl BK1266.out 0).trans rfl, (Zl BK1266.out 1).trans rfl, (Zl BK1266.out 2).trans rfl, (Zl BK1267.out 0).trans rfl, (Zl BK1267.out 1).trans rfl, (Zl BK1267.out 2).trans rfl⟩ (fun hHeld => ?_)
    clear hK K
    refine norm_ (a' := ?_) ?_ ?_
    rotate_left
    ·show Act.put _ (some 19) _ = _
     simp only [Act.put, List.setIfInBounds_toArray, List.set_cons_zero, List.set_cons_succ, Yi, Yj]
     rfl
    exact norm_ Qa14 (hJ2_5 (v1270, v1273) _ ⟨hHeld, (Qr1 HO1274.out), (Qr12 BK1266.out), (Qr12 BK1267.out), (Qa0)⟩)
   ·skip
    refine Kd.R_lit_step (Kd.int .u32) _ 47 ?hg (N := 20) ?hd (xs := ([] : List Int)) (inner := []) (ok := fun _ => True) (okp := fun _ => True) ?hr ?hp (fun _ hk => hk) trivial (Below.refl _ _) (Nat.le_refl _) (by simp) ?_; (case hd => rfl); (case hg => rfl); (case hr => exact Qa9); (case hp => exact (Reps.none _ _))
    intro v1276 w32 ho33 hb hg_ hnew_
    clear hg_ hnew_
    (first | rw [← Ny1275.out] at ho33 | (simp only [Int.reduceToNat] at ho33; rw [← Ny1275.out] at ho33))
    have HO1277 := Yt.mk (Kd.Yb (Kd.Ya ho33 (Kd.R_lt (Qr1 HO1271.out))) (Zk (Qa0)))
    replace HO1271 := Yt.mk (Kd.Yf (Qr1 HO1271.out) (Kd.Zw ho33) hb)
    replace BK1266 := Yt.mk (Zq (g := gb1266) (o := .cells #[.bool a0_0, .slice A0_1 l0_1.length c0_1, .slice A0_2 l0_2.length c0_2] 50 (0, 0)) (Qr12 BK1266.out) hb)
    replace BK1267 := Yt.mk (Zq (g := gb1267) (o := .cells #[.bool a1_0, .slice A1_1 l1_1.length c1_1, .slice A1_2 l1_2.length c1_2] 50 (0, 0)) (Qr12 BK1267.out) hb)
    replace HB := Yt.mk (Zm (Qa0) hb)
    clear hb ho33
    refine hK.out _ _ ⟨(Zl BK1266.out 0).trans rfl, (Zl BK1266.out 1).trans rfl, (Zl BK1266.out 2).trans rfl, (Zl BK1267.out 0).trans rfl, (Zl BK1267.out 1).trans rfl, (Zl BK1267.out 2).trans rfl⟩ (fun hHeld => ?_)
    clear hK K
    refine norm_ (a' := ?_) ?_ ?_
    rotate_left
    ·show Act.put _ (some 20) _ = _
     simp only [Act.put, List.setIfInBounds_toArray, List.set_cons_zero, List.set_cons_succ, Yi, Yj]
     rfl
    exact norm_ Qa14 (hJ2_6 (v1270, v1276) _ ⟨hHeld, (by (with_reducible repeat (first | apply Kd.Zf | apply Kd.Ze | apply Kd.Zj)); exact Kd.Zv HO1271.out (fun _ hk => hk.2)), (by (with_reducible repeat (first | apply Kd.Zf | apply Kd.Ze | apply Kd.Zj)); exact Kd.Zv HO1277.out (fun _ hk => hk.2)), (Qr12 BK1266.out), (Qr12 BK1267.out), (Qa0)⟩)
   skip
   refine box_step ?hg (N := 7) ?hd (cs := #[.bool false, .slice none 0 0, .slice none 0 0]) (t := 50) ?hr ?_; (case hd => rfl); (case hg => rfl); (case hr => exact Qa9)
   intro gb1289 hg w32 hbox hb
   replace HO1271 := Yt.mk (Kd.Yd (Qr1 HO1271.out) hb)
   have BK1289 := Yt.mk (hbox)
   have GW1289 := Yt.mk ((by rw [hg]; exact (Zk (Qa0)) : w.heap.size ≤ gb1289))
   have GE1289 := Yt.mk ((by rw [hg]; exact (Zk (Qa0)) : w.heap.size ≤ gb1289))
   replace HB := Yt.mk (Zm (Qa0) hb)
   have NB1266_1289 := Yt.mk ((by rw [hg]; exact Nat.ne_of_lt (blk_lt (g := gb1266) (o := .cells #[.bool a0_0, .slice A0_1 l0_1.length c0_1, .slice A0_2 l0_2.length c0_2] 50 (0, 0)) (Qr12 BK1266.out)) : gb1266 ≠ gb1289))
   have NB1289_1266 := Yt.mk ((by rw [hg]; exact Nat.ne_of_gt (blk_lt (g := gb1266) (o := .cells #[.bool a0_0, .slice A0_1 l0_1.length c0_1, .slice A0_2 l0_2.length c0_2] 50 (0, 0)) (Qr12 BK1266.out)) : gb1289 ≠ gb1266))
   replace BK1266 := Yt.mk (Zq (g := gb1266) (o := .cells #[.bool a0_0, .slice A0_1 l0_1.length c0_1, .slice A0_2 l0_2.length c0_2] 50 (0, 0)) (Qr12 BK1266.out) hb)
   have NB1267_1289 := Yt.mk ((by rw [hg]; exact Nat.ne_of_lt (blk_lt (g := gb1267) (o := .cells #[.bool a1_0, .slice A1_1 l1_1.length c1_1, .slice A1_2 l1_2.length c1_2] 50 (0, 0)) (Qr12 BK1267.out)) : gb1267 ≠ gb1289))
   have NB1289_1267 := Yt.mk ((by rw [hg]; exact Nat.ne_of_gt (blk_lt (g := gb1267) (o := .cells #[.bool a1_0, .slice A1_1 l1_1.length c1_1, .slice A1_2 l1_2.length c1_2] 50 (0, 0)) (Qr12 BK1267.out)) : gb1289 ≠ gb1267))
   replace BK1267 := Yt.mk (Zq (g := gb1267) (o := .cells #[.bool a1_0, .slice A1_1 l1_1.length c1_1, .slice A1_2 l1_2.length c1_2] 50 (0, 0)) (Qr12 BK1267.out) hb)
   clear hb hbox hg
   refine hK.out _ _ ⟨(Zl BK1266.out 0).trans rfl, (Zl BK1266.out 1).trans rfl, (Zl BK1266.out 2).trans rfl, (Zl BK1267.out 0).trans rfl, (Zl BK1267.out 1).trans rfl, (Zl BK1267.out 2).trans rfl⟩ (fun hHeld => ?_)
   clear hK K
   refine norm_ (a' := ?_) ?_ ?_
   rotate_left
   ·show Act.put _ (some 7) _ = _
    simp only [Act.put, List.setIfInBounds_toArray, List.set_cons_zero, List.set_cons_succ, Yi, Yj]
    rfl
   exact norm_ Qa14 (hJ2_14 (v1270, gb1289) _ ⟨hHeld, (Qr1 HO1271.out), (Qr12 BK1266.out), (Qr12 BK1267.out), (Qr12 BK1289.out), GW1289.out, GE1289.out, NB1266_1289.out, NB1289_1266.out, NB1267_1289.out, NB1289_1267.out, (Qa0)⟩)
  intro hJ2
  refine join_ (σ := Value) 10 #[true, true, false, true, true, false, true, true, true, false, false, false, false, false, false, false, false] (fun s_ => [(20, s_)]) (fun s_ w' => (w'.cell? ⟨gb1266, 0, none⟩ = some (.bool a0_0) ∧ w'.cell? ⟨gb1266, 1, none⟩ = some (.slice A0_1 l0_1.length c0_1) ∧ w'.cell? ⟨gb1266, 2, none⟩ = some (.slice A0_2 l0_2.length c0_2) ∧ w'.cell? ⟨gb1267, 0, none⟩ = some (.bool a1_0) ∧ w'.cell? ⟨gb1267, 1, none⟩ = some (.slice A1_1 l1_1.length c1_1) ∧ w'.cell? ⟨gb1267, 2, none⟩ = some (.slice A1_2 l1_2.length c1_2)) ∧ (Kd.R (Kd.int .u32) 47 w' w.heap.size (fun _ => True) s_ y1275) ∧ (w'.heap[gb1266]? = some (.cells #[.bool a0_0, .slice A0_1 l0_1.length c0_1, .slice A0_2 l0_2.length c0_2] 50 (0, 0))) ∧ (w'.heap[gb1267]? = some (.cells #[.bool a1_0, .slice A1_1 l1_1.length c1_1, .slice A1_2 l1_2.length c1_2] 50 (0, 0))) ∧ (Below w.heap.size w w')) ?_ ?_
  ·skip
   rintro v1276 w31 ⟨hS_, h0_, h1_, h2_, h3_⟩
   have HO1277 : Yt (Kd.R (Kd.int .u32) 47 w31 w.heap.size (fun _ => True) v1276 y1275) := ⟨h0_⟩
   replace BK1266 : Yt (w31.heap[gb1266]? = some (.cells #[.bool a0_0, .slice A0_1 l0_1.length c0_1, .slice A0_2 l0_2.length c0_2] 50 (0, 0))) := ⟨h1_⟩
   replace BK1267 : Yt (w31.heap[gb1267]? = some (.cells #[.bool a1_0, .slice A1_1 l1_1.length c1_1, .slice A1_2 l1_2.length c1_2] 50 (0, 0))) := ⟨h2_⟩
   replace HB : Yt (Below w.heap.size w w31) := ⟨h3_⟩
   clear h0_ h1_ h2_ h3_
   have hHeld : w31.cell? ⟨gb1266, 0, none⟩ = some (.bool a0_0) ∧ w31.cell? ⟨gb1266, 1, none⟩ = some (.slice A0_1 l0_1.length c0_1) ∧ w31.cell? ⟨gb1266, 2, none⟩ = some (.slice A0_2 l0_2.length c0_2) ∧ w31.cell? ⟨gb1267, 0, none⟩ = some (.bool a1_0) ∧ w31.cell? ⟨gb1267, 1, none⟩ = some (.slice A1_1 l1_1.length c1_1) ∧ w31.cell? ⟨gb1267, 2, none⟩ = some (.slice A1_2 l1_2.length c1_2) := hS_
   refine norm_ (a' := ?_) ?_ ?_
   rotate_left
   ·simp only [putAll, Act.put, List.setIfInBounds_toArray, List.set_cons_zero, List.set_cons_succ]
    rfl
   refine two_ (i := 2) (j := 14) (Ni := some 16) (Nj := some 7) #[true, true, true, true, true, false, true, true, true, false, false, false, false, false, false, false, false] #[true, true, false, true, true, false, true, true, true, false, false, false, false, false, true, false, false] rfl rfl rfl rfl (two_of HT_.out Qa8) (by decide) (by decide) (fun K hK => ?_) (fun K hK => ?_)
   ·skip
    refine Kd.R_lit_step (Kd.int .u32) _ 47 ?hg (N := 16) ?hd (xs := ([] : List Int)) (inner := []) (ok := fun _ => True) (okp := fun _ => True) ?hr ?hp (fun _ hk => hk) trivial (Below.refl _ _) (Nat.le_refl _) (by simp) ?_; (case hd => rfl); (case hg => rfl); (case hr => exact Qa9); (case hp => exact (Reps.none _ _))
    intro v1270 w32 ho33 hb hg_ hnew_
    clear hg_ hnew_
    (first | rw [← Ny1269.out] at ho33 | (simp only [Int.reduceToNat] at ho33; rw [← Ny1269.out] at ho33))
    have HO1271 := Yt.mk (Kd.Yb (Kd.Ya ho33 (Kd.R_lt (Qr1 HO1277.out))) (Zk (Qa0)))
    replace HO1277 := Yt.mk (Kd.Yf (Qr1 HO1277.out) (Kd.Zw ho33) hb)
    replace BK1266 := Yt.mk (Zq (g := gb1266) (o := .cells #[.bool a0_0, .slice A0_1 l0_1.length c0_1, .slice A0_2 l0_2.length c0_2] 50 (0, 0)) (Qr12 BK1266.out) hb)
    replace BK1267 := Yt.mk (Zq (g := gb1267) (o := .cells #[.bool a1_0, .slice A1_1 l1_1.length c1_1, .slice A1_2 l1_2.length c1_2] 50 (0, 0)) (Qr12 BK1267.out) hb)
    replace HB := Yt.mk (Zm (Qa0) hb)
    clear hb ho33
    refine hK.out _ _ ⟨(Zl BK1266.out 0).trans rfl, (Zl BK1266.out 1).trans rfl, (Zl BK1266.out 2).trans rfl, (Zl BK1267.out 0).trans rfl, (Zl BK1267.out 1).trans rfl, (Zl BK1267.out 2).trans rfl⟩ (fun hHeld => ?_)
    clear hK K
    refine norm_ (a' := ?_) ?_ ?_
    rotate_left
    ·show Act.put _ (some 16) _ = _
     simp only [Act.put, List.setIfInBounds_toArray, List.set_cons_zero, List.set_cons_succ, Yi, Yj]
     rfl
    exact norm_ Qa14 (hJ2_6 (v1270, v1276) _ ⟨hHeld, (by (with_reducible repeat (first | apply Kd.Zf | apply Kd.Ze | apply Kd.Zj)); exact Kd.Zv HO1271.out (fun _ hk => hk.2)), (by (with_reducible repeat (first | apply Kd.Zf | apply Kd.Ze | apply Kd.Zj)); exact Kd.Zv HO1277.out (fun _ hk => hk.2)), (Qr12 BK1266.out), (Qr12 BK1267.out), (Qa0)⟩)
   skip
   refine box_step ?hg (N := 7) ?hd (cs := #[.bool false, .slice none 0 0, .slice none 0 0]) (t := 50) ?hr ?_; (case hd => rfl); (case hg => rfl); (case hr => exact Qa9)
   intro gb1289 hg w32 hbox hb
   replace HO1277 := Yt.mk (Kd.Yd (Qr1 HO1277.out) hb)
   have BK1289 := Yt.mk (hbox)
   have GW1289 := Yt.mk ((by rw [hg]; exact (Zk (Qa0)) : w.heap.size ≤ gb1289))
   have GE1289 := Yt.mk ((by rw [hg]; exact (Zk (Qa0)) : w.heap.size ≤ gb1289))
   replace HB := Yt.mk (Zm (Qa0) hb)
   have NB1266_1289 := Yt.mk ((by rw [hg]; exact Nat.ne_of_lt (blk_lt (g := gb1266) (o := .cells #[.bool a0_0, .slice A0_1 l0_1.length c0_1, .slice A0_2 l0_2.length c0_2] 50 (0, 0)) (Qr12 BK1266.out)) : gb1266 ≠ gb1289))
   have NB1289_1266 := Yt.mk ((by rw [hg]; exact Nat.ne_of_gt (blk_lt (g := gb1266) (o := .cells #[.bool a0_0, .slice A0_1 l0_1.length c0_1, .slice A0_2 l0_2.length c0_2] 50 (0, 0)) (Qr12 BK1266.out)) : gb1289 ≠ gb1266))
   replace BK1266 := Yt.mk (Zq (g := gb1266) (o := .cells #[.bool a0_0, .slice A0_1 l0_1.length c0_1, .slice A0_2 l0_2.length c0_2] 50 (0, 0)) (Qr12 BK1266.out) hb)
   have NB1267_1289 := Yt.mk ((by rw [hg]; exact Nat.ne_of_lt (blk_lt (g := gb1267) (o := .cells #[.bool a1_0, .slice A1_1 l1_1.length c1_1, .slice A1_2 l1_2.length c1_2] 50 (0, 0)) (Qr12 BK1267.out)) : gb1267 ≠ gb1289))
   have NB1289_1267 := Yt.mk ((by rw [hg]; exact Nat.ne_of_gt (blk_lt (g := gb1267) (o := .cells #[.bool a1_0, .slice A1_1 l1_1.length c1_1, .slice A1_2 l1_2.length c1_2] 50 (0, 0)) (Qr12 BK1267.out)) : gb1289 ≠ gb1267))
   replace BK1267 := Yt.mk (Zq (g := gb1267) (o := .cells #[.bool a1_0, .slice A1_1 l1_1.length c1_1, .slice A1_2 l1_2.length c1_2] 50 (0, 0)) (Qr12 BK1267.out) hb)
   clear hb hbox hg
   refine hK.out _ _ ⟨(Zl BK1266.out 0).trans rfl, (Zl BK1266.out 1).trans rfl, (Zl BK1266.out 2).trans rfl, (Zl BK1267.out 0).trans rfl, (Zl BK1267.out 1).trans rfl, (Zl BK1267.out 2).trans rfl⟩ (fun hHeld => ?_)
   clear hK K
   refine norm_ (a' := ?_) ?_ ?_
   rotate_left
   ·show Act.put _ (some 7) _ = _
    simp only [Act.put, List.setIfInBounds_toArray, List.set_cons_zero, List.set_cons_succ, Yi, Yj]
    rfl
   exact norm_ Qa14 (hJ6_14 (v1276, gb1289) _ ⟨hHeld, (Qr1 HO1277.out), (Qr12 BK1266.out), (Qr12 BK1267.out), (Qr12 BK1289.out), GW1289.out, GE1289.out, NB1266_1289.out, NB1289_1266.out, NB1267_1289.out, NB1289_1267.out, (Qa0)⟩)
  intro hJ6
  refine join_ (σ := Nat) 10 #[true, true, false, true, true, false, false, true, true, false, false, false, false, false, true, false, false] (fun s_ => [(7, .pointer (some ⟨s_, 0, none⟩))]) (fun s_ w' => (w'.cell? ⟨gb1266, 0, none⟩ = some (.bool a0_0) ∧ w'.cell? ⟨gb1266, 1, none⟩ = some (.slice A0_1 l0_1.length c0_1) ∧ w'.cell? ⟨gb1266, 2, none⟩ = some (.slice A0_2 l0_2.length c0_2) ∧ w'.cell? ⟨gb1267, 0, none⟩ = some (.bool a1_0) ∧ w'.cell? ⟨gb1267, 1, none⟩ = some (.slice A1_1 l1_1.length c1_1) ∧ w'.cell? ⟨gb1267, 2, none⟩ = some (.slice A1_2 l1_2.length c1_2)) ∧ (w'.heap[gb1266]? = some (.cells #[.bool a0_0, .slice A0_1 l0_1.length c0_1, .slice A0_2 l0_2.length c0_2] 50 (0, 0))) ∧ (w'.heap[gb1267]? = some (.cells #[.bool a1_0, .slice A1_1 l1_1.length c1_1, .slice A1_2 l1_2.length c1_2] 50 (0, 0))) ∧ (w'.heap[s_]? = some (.cells #[.bool false, .slice none 0 0, .slice none 0 0] 50 (0, 0))) ∧ (w.heap.size ≤ s_) ∧ (w.heap.size ≤ s_) ∧ (gb1266 ≠ s_) ∧ (s_ ≠ gb1266) ∧ (gb1267 ≠ s_) ∧ (s_ ≠ gb1267) ∧ (Below w.heap.size w w')) ?_ ?_
  ·skip
   rintro gb1289 w30 ⟨hS_, h0_, h1_, h2_, h3_, h4_, h5_, h6_, h7_, h8_, h9_⟩
   replace BK1266 : Yt (w30.heap[gb1266]? = some (.cells #[.bool a0_0, .slice A0_1 l0_1.length c0_1, .slice A0_2 l0_2.length c0_2] 50 (0, 0))) := ⟨h0_⟩
   replace BK1267 : Yt (w30.heap[gb1267]? = some (.cells #[.bool a1_0, .slice A1_1 l1_1.length c1_1, .slice A1_2 l1_2.length c1_2] 50 (0, 0))) := ⟨h1_⟩
   have BK1289 : Yt (w30.heap[gb1289]? = some (.cells #[.bool false, .slice none 0 0, .slice none 0 0] 50 (0, 0))) := ⟨h2_⟩
   have GW1289 : Yt (w.heap.size ≤ gb1289) := ⟨h3_⟩
   have GE1289 : Yt (w.heap.size ≤ gb1289) := ⟨h4_⟩
   have NB1266_1289 : Yt (gb1266 ≠ gb1289) := ⟨h5_⟩
   have NB1289_1266 : Yt (gb1289 ≠ gb1266) := ⟨h6_⟩
   have NB1267_1289 : Yt (gb1267 ≠ gb1289) := ⟨h7_⟩
   have NB1289_1267 : Yt (gb1289 ≠ gb1267) := ⟨h8_⟩
   replace HB : Yt (Below w.heap.size w w30) := ⟨h9_⟩
   clear h0_ h1_ h2_ h3_ h4_ h5_ h6_ h7_ h8_ h9_
   have hHeld : w30.cell? ⟨gb1266, 0, none⟩ = some (.bool a0_0) ∧ w30.cell? ⟨gb1266, 1, none⟩ = some (.slice A0_1 l0_1.length c0_1) ∧ w30.cell? ⟨gb1266, 2, none⟩ = some (.slice A0_2 l0_2.length c0_2) ∧ w30.cell? ⟨gb1267, 0, none⟩ = some (.bool a1_0) ∧ w30.cell? ⟨gb1267, 1, none⟩ = some (.slice A1_1 l1_1.length c1_1) ∧ w30.cell? ⟨gb1267, 2, none⟩ = some (.slice A1_2 l1_2.length c1_2) := hS_
   refine norm_ (a' := ?_) ?_ ?_
   rotate_left
   ·simp only [putAll, Act.put, List.setIfInBounds_toArray, List.set_cons_zero, List.set_cons_succ]
    rfl
   refine two_ (i := 2) (j := 6) (Ni := some 16) (Nj := some 20) #[true, true, true, true, true, false, false, true, true, false, false, false, false, false, true, false, false] #[true, true, false, true, true, false, true, true, true, false, false, false, false, false, true, false, false] rfl rfl rfl rfl (two_of HT_.out Qa8) (by decide) (by decide) (fun K hK => ?_) (fun K hK => ?_)
   ·skip
    refine Kd.R_lit_step (Kd.int .u32) _ 47 ?hg (N := 16) ?hd (xs := ([] : List Int)) (inner := []) (ok := fun _ => True) (okp := fun _ => True) ?hr ?hp (fun _ hk => hk) trivial (Below.refl _ _) (Nat.le_refl _) (by simp) ?_; (case hd => rfl); (case hg => rfl); (case hr => exact Qa9); (case hp => exact (Reps.none _ _))
    intro v1270 w31 ho32 hb hg_ hnew_
    clear hg_ hnew_
    (first | rw [← Ny1269.out] at ho32 | (simp only [Int.reduceToNat] at ho32; rw [← Ny1269.out] at ho32))
    have HO1271 := Yt.mk (Kd.Yb ho32 (Zk (Qa0)))
    replace BK1266 := Yt.mk (Zq (g := gb1266) (o := .cells #[.bool a0_0, .slice A0_1 l0_1.length c0_1, .slice A0_2 l0_2.length c0_2] 50 (0, 0)) (Qr12 BK1266.out) hb)
    replace BK1267 := Yt.mk (Zq (g := gb1267) (o := .cells #[.bool a1_0, .slice A1_1 l1_1.length c1_1, .slice A1_2 l1_2.length c1_2] 50 (0, 0)) (Qr12 BK1267.out) hb)
    replace BK1289 := Yt.mk (Zq (g := gb1289) (o := .cells #[.bool false, .slice none 0 0, .slice none 0 0] 50 (0, 0)) (Qr12 BK1289.out) hb)
    replace HB := Yt.mk (Zm (Qa0) hb)
    clear hb ho32
    refine hK.out _ _ ⟨(Zl BK1266.out 0).trans rfl, (Zl BK1266.out 1).trans rfl, (Zl BK1266.out 2).trans rfl, (Zl BK1267.out 0).trans rfl, (Zl BK1267.out 1).trans rfl, (Zl BK1267.out 2).trans rfl⟩ (fun hHeld => ?_)
    clear hK K
    refine norm_ (a' := ?_) ?_ ?_
    rotate_left
    ·show Act.put _ (some 16) _ = _
     simp only [Act.put, List.setIfInBounds_toArray, List.set_cons_zero, List.set_cons_succ, Yi, Yj]
     rfl
    exact norm_ Qa14 (hJ2_14 (v1270, gb1289) _ ⟨hHeld, (Qr1 HO1271.out), (Qr12 BK1266.out), (Qr12 BK1267.out), (Qr12 BK1289.out), GW1289.out, GE1289.out, NB1266_1289.out, NB1289_1266.out, NB1267_1289.out, NB1289_1267.out, (Qa0)⟩)
   skip
   refine Kd.R_lit_step (Kd.int .u32) _ 47 ?hg (N := 20) ?hd (xs := ([] : List Int)) (inner := []) (ok := fun _ => True) (okp := fun _ => True) ?hr ?hp (fun _ hk => hk) trivial (Below.refl _ _) (Nat.le_refl _) (by simp) ?_; (case hd => rfl); (case hg => rfl); (case hr => exact Qa9); (case hp => exact (Reps.none _ _))
   intro v1276 w31 ho32 hb hg_ hnew_
   clear hg_ hnew_
   (first | rw [← Ny1275.out] at ho32 | (simp only [Int.reduceToNat] at ho32; rw [← Ny1275.out] at ho32))
   have HO1277 := Yt.mk (Kd.Yb ho32 (Zk (Qa0)))
   replace BK1266 := Yt.mk (Zq (g := gb1266) (o := .cells #[.bool a0_0, .slice A0_1 l0_1.length c0_1, .slice A0_2 l0_2.length c0_2] 50 (0, 0)) (Qr12 BK1266.out) hb)
   replace BK1267 := Yt.mk (Zq (g := gb1267) (o := .cells #[.bool a1_0, .slice A1_1 l1_1.length c1_1, .slice A1_2 l1_2.length c1_2] 50 (0, 0)) (Qr12 BK1267.out) hb)
   replace BK1289 := Yt.mk (Zq (g := gb1289) (o := .cells #[.bool false, .slice none 0 0, .slice none 0 0] 50 (0, 0)) (Qr12 BK1289.out) hb)
   replace HB := Yt.mk (Zm (Qa0) hb)
   clear hb ho32
   refine hK.out _ _ ⟨(Zl BK1266.out 0).trans rfl, (Zl BK1266.out 1).trans rfl, (Zl BK1266.out 2).trans rfl, (Zl BK1267.out 0).trans rfl, (Zl BK1267.out 1).trans rfl, (Zl BK1267.out 2).trans rfl⟩ (fun hHeld => ?_)
   clear hK K
   refine norm_ (a' := ?_) ?_ ?_
   rotate_left
   ·show Act.put _ (some 20) _ = _
    simp only [Act.put, List.setIfInBounds_toArray, List.set_cons_zero, List.set_cons_succ, Yi, Yj]
    rfl
   exact norm_ Qa14 (hJ6_14 (v1276, gb1289) _ ⟨hHeld, (Qr1 HO1277.out), (Qr12 BK1266.out), (Qr12 BK1267.out), (Qr12 BK1289.out), GW1289.out, GE1289.out, NB1266_1289.out, NB1289_1266.out, NB1267_1289.out, NB1289_1267.out, (Qa0)⟩)
  intro hJ14
  refine three_ (i := 2) (j := 6) (k := 14) (Ni := some 16) (Nj := some 20) (Nk := some 7) #[true, true, true, true, true, false, false, true, true, false, false, false, false, false, false, false, false] #[true, true, false, true, true, false, true, true, true, false, false, false, false, false, false, false, false] #[true, true, false, true, true, false, false, true, true, false, false, false, false, false, true, false, false] rfl rfl rfl rfl rfl rfl (three_of HT_.out Qa8) (by decide) (by decide) (by decide) (fun K hK => ?_) (fun K hK => ?_) (fun K hK => ?_)
  ·skip
   refine Kd.R_lit_step (Kd.int .u32) _ 47 ?hg (N := 16) ?hd (xs := ([] : List Int)) (inner := []) (ok := fun _ => True) (okp := fun _ => True) ?hr ?hp (fun _ hk => hk) trivial (Below.refl _ _) (Nat.le_refl _) (by simp) ?_; (case hd => rfl); (case hg => rfl); (case hr => exact Qa9); (case hp => exact (Reps.none _ _))
   intro v1270 w29 ho30 hb hg_ hnew_
   clear hg_ hnew_
   (first | rw [← Ny1269.out] at ho30 | (simp only [Int.reduceToNat] at ho30; rw [← Ny1269.out] at ho30))
   have HO1271 := Yt.mk (Kd.Yb ho30 (Zk (Qa0)))
   replace BK1266 := Yt.mk (Zq (g := gb1266) (o := .cells #[.bool a0_0, .slice A0_1 l0_1.length c0_1, .slice A0_2 l0_2.length c0_2] 50 (0, 0)) (Qr12 BK1266.out) hb)
   replace BK1267 := Yt.mk (Zq (g := gb1267) (o := .cells #[.bool a1_0, .slice A1_1 l1_1.length c1_1, .slice A1_2 l1_2.length c1_2] 50 (0, 0)) (Qr12 BK1267.out) hb)
   replace HB := Yt.mk (Zm (Qa0) hb)
   clear hb ho30
   refine hK.out _ _ ⟨(Zl BK1266.out 0).trans rfl, (Zl BK1266.out 1).trans rfl, (Zl BK1266.out 2).trans rfl, (Zl BK1267.out 0).trans rfl, (Zl BK1267.out 1).trans rfl, (Zl BK1267.out 2).trans rfl⟩ (fun hHeld => ?_)
   clear hK K
   refine norm_ (a' := ?_) ?_ ?_
   rotate_left
   ·show Act.put _ (some 16) _ = _
    simp only [Act.put, List.setIfInBounds_toArray, List.set_cons_zero, List.set_cons_succ, Yi, Yj]
    rfl
   exact norm_ Qa14 (hJ2 (v1270) _ ⟨hHeld, (Qr1 HO1271.out), (Qr12 BK1266.out), (Qr12 BK1267.out), (Qa0)⟩)
  ·skip
   refine Kd.R_lit_step (Kd.int .u32) _ 47 ?hg (N := 20) ?hd (xs := ([] : List Int)) (inner := []) (ok := fun _ => True) (okp := fun _ => True) ?hr ?hp (fun _ hk => hk) trivial (Below.refl _ _) (Nat.le_refl _) (by simp) ?_; (case hd => rfl); (case hg => rfl); (case hr => exact Qa9); (case hp => exact (Reps.none _ _))
   intro v1276 w29 ho30 hb hg_ hnew_
   clear hg_ hnew_
   (first | rw [← Ny1275.out] at ho30 | (simp only [Int.reduceToNat] at ho30; rw [← Ny1275.out] at ho30))
   have HO1277 := Yt.mk (Kd.Yb ho30 (Zk (Qa0)))
   replace BK1266 := Yt.mk (Zq (g := gb1266) (o := .cells #[.bool a0_0, .slice A0_1 l0_1.length c0_1, .slice A0_2 l0_2.length c0_2] 50 (0, 0)) (Qr12 BK1266.out) hb)
   replace BK1267 := Yt.mk (Zq (g := gb1267) (o := .cells #[.bool a1_0, .slice A1_1 l1_1.length c1_1, .slice A1_2 l1_2.length c1_2] 50 (0, 0)) (Qr12 BK1267.out) hb)
   replace HB := Yt.mk (Zm (Qa0) hb)
   clear hb ho30
   refine hK.out _ _ ⟨(Zl BK1266.out 0).trans rfl, (Zl BK1266.out 1).trans rfl, (Zl BK1266.out 2).trans rfl, (Zl BK1267.out 0).trans rfl, (Zl BK1267.out 1).trans rfl, (Zl BK1267.out 2).trans rfl⟩ (fun hHeld => ?_)
   clear hK K
   refine norm_ (a' := ?_) ?_ ?_
   rotate_left
   ·show Act.put _ (some 20) _ = _
    simp only [Act.put, List.setIfInBounds_toArray, List.set_cons_zero, List.set_cons_succ, Yi, Yj]
    rfl
   exact norm_ Qa14 (hJ6 (v1276) _ ⟨hHeld, (Qr1 HO1277.out), (Qr12 BK1266.out), (Qr12 BK1267.out), (Qa0)⟩)
  skip
  refine box_step ?hg (N := 7) ?hd (cs := #[.bool false, .slice none 0 0, .slice none 0 0]) (t := 50) ?hr ?_; (case hd => rfl); (case hg => rfl); (case hr => exact Qa9)
  intro gb1289 hg w29 hbox hb
  have BK1289 := Yt.mk (hbox)
  have GW1289 := Yt.mk ((by rw [hg]; exact (Zk (Qa0)) : w.heap.size ≤ gb1289))
  have GE1289 := Yt.mk ((by rw [hg]; exact (Zk (Qa0)) : w.heap.size ≤ gb1289))
  replace HB := Yt.mk (Zm (Qa0) hb)
  have NB1266_1289 := Yt.mk ((by rw [hg]; exact Nat.ne_of_lt (blk_lt (g := gb1266) (o := .cells #[.bool a0_0, .slice A0_1 l0_1.length c0_1, .slice A0_2 l0_2.length c0_2] 50 (0, 0)) (Qr12 BK1266.out)) : gb1266 ≠ gb1289))
  have NB1289_1266 := Yt.mk ((by rw [hg]; exact Nat.ne_of_gt (blk_lt (g := gb1266) (o := .cells #[.bool a0_0, .slice A0_1 l0_1.length c0_1, .slice A0_2 l0_2.length c0_2] 50 (0, 0)) (Qr12 BK1266.out)) : gb1289 ≠ gb1266))
  replace BK1266 := Yt.mk (Zq (g := gb1266) (o := .cells #[.bool a0_0, .slice A0_1 l0_1.length c0_1, .slice A0_2 l0_2.length c0_2] 50 (0, 0)) (Qr12 BK1266.out) hb)
  have NB1267_1289 := Yt.mk ((by rw [hg]; exact Nat.ne_of_lt (blk_lt (g := gb1267) (o := .cells #[.bool a1_0, .slice A1_1 l1_1.length c1_1, .slice A1_2 l1_2.length c1_2] 50 (0, 0)) (Qr12 BK1267.out)) : gb1267 ≠ gb1289))
  have NB1289_1267 := Yt.mk ((by rw [hg]; exact Nat.ne_of_gt (blk_lt (g := gb1267) (o := .cells #[.bool a1_0, .slice A1_1 l1_1.length c1_1, .slice A1_2 l1_2.length c1_2] 50 (0, 0)) (Qr12 BK1267.out)) : gb1289 ≠ gb1267))
  replace BK1267 := Yt.mk (Zq (g := gb1267) (o := .cells #[.bool a1_0, .slice A1_1 l1_1.length c1_1, .slice A1_2 l1_2.length c1_2] 50 (0, 0)) (Qr12 BK1267.out) hb)
  clear hb hbox hg
  refine hK.out _ _ ⟨(Zl BK1266.out 0).trans rfl, (Zl BK1266.out 1).trans rfl, (Zl BK1266.out 2).trans rfl, (Zl BK1267.out 0).trans rfl, (Zl BK1267.out 1).trans rfl, (Zl BK1267.out 2).trans rfl⟩ (fun hHeld => ?_)
  clear hK K
  refine norm_ (a' := ?_) ?_ ?_
  rotate_left
  ·show Act.put _ (some 7) _ = _
   simp only [Act.put, List.setIfInBounds_toArray, List.set_cons_zero, List.set_cons_succ, Yi, Yj]
   rfl
  exact norm_ Qa14 (hJ14 (gb1289) _ ⟨hHeld, (Qr12 BK1266.out), (Qr12 BK1267.out), (Qr12 BK1289.out), GW1289.out, GE1289.out, NB1266_1289.out, NB1289_1266.out, NB1267_1289.out, NB1289_1267.out, (Qa0)⟩)
 rintro ⟨v1270, v1273, v1276, v1279, v1283, v1286, gb1289⟩ w39 ⟨hS_, h0_, h1_, h2_, h3_, h4_, h5_, h6_, h7_, h8_, h9_, h10_, h11_, h12_, h13_⟩
 have HO1274 : Yt (Kd.R (Kd.int .u32) 47 w39 w.heap.size (fun k_ => some k_ ≠ (v1279 : Value).ownBlock ∧ some k_ ≠ (v1283 : Value).ownBlock ∧ some k_ ≠ (v1286 : Value).ownBlock) v1273 y1272) := ⟨h0_⟩
 have HO1280 : Yt (Kd.R (Kd.int .u32) 47 w39 w.heap.size (fun k_ => some k_ ≠ (v1273 : Value).ownBlock ∧ some k_ ≠ (v1283 : Value).ownBlock ∧ some k_ ≠ (v1286 : Value).ownBlock) v1279 y1278) := ⟨h1_⟩
 have HO1284 : Yt (Kd.R (Kd.int .u32) 47 w39 w.heap.size (fun k_ => some k_ ≠ (v1273 : Value).ownBlock ∧ some k_ ≠ (v1279 : Value).ownBlock ∧ some k_ ≠ (v1286 : Value).ownBlock) v1283 t1282) := ⟨h2_⟩
 have HO1287 : Yt (Kd.R (Kd.int .u32) 47 w39 w.heap.size (fun k_ => some k_ ≠ (v1273 : Value).ownBlock ∧ some k_ ≠ (v1279 : Value).ownBlock ∧ some k_ ≠ (v1283 : Value).ownBlock) v1286 t1285) := ⟨h3_⟩
 replace BK1266 : Yt (w39.heap[gb1266]? = some (.cells #[.bool a0_0, .slice A0_1 l0_1.length c0_1, .slice A0_2 l0_2.length c0_2] 50 (0, 0))) := ⟨h4_⟩
 replace BK1267 : Yt (w39.heap[gb1267]? = some (.cells #[.bool a1_0, .slice A1_1 l1_1.length c1_1, .slice A1_2 l1_2.length c1_2] 50 (0, 0))) := ⟨h5_⟩
 have BK1289 : Yt (w39.heap[gb1289]? = some (.cells #[.bool false, .slice none 0 0, .slice none 0 0] 50 (0, 0))) := ⟨h6_⟩
 have GW1289 : Yt (w.heap.size ≤ gb1289) := ⟨h7_⟩
 have GE1289 : Yt (w.heap.size ≤ gb1289) := ⟨h8_⟩
 have NB1266_1289 : Yt (gb1266 ≠ gb1289) := ⟨h9_⟩
 have NB1289_1266 : Yt (gb1289 ≠ gb1266) := ⟨h10_⟩
 have NB1267_1289 : Yt (gb1267 ≠ gb1289) := ⟨h11_⟩
 have NB1289_1267 : Yt (gb1289 ≠ gb1267) := ⟨h12_⟩
 replace HB : Yt (Below w.heap.size w w39) := ⟨h13_⟩
 clear h0_ h1_ h2_ h3_ h4_ h5_ h6_ h7_ h8_ h9_ h10_ h11_ h12_ h13_
 have hHeld : w39.cell? ⟨gb1266, 0, none⟩ = some (.bool a0_0) ∧ w39.cell? ⟨gb1266, 1, none⟩ = some (.slice A0_1 l0_1.length c0_1) ∧ w39.cell? ⟨gb1266, 2, none⟩ = some (.slice A0_2 l0_2.length c0_2) ∧ w39.cell? ⟨gb1267, 0, none⟩ = some (.bool a1_0) ∧ w39.cell? ⟨gb1267, 1, none⟩ = some (.slice A1_1 l1_1.length c1_1) ∧ w39.cell? ⟨gb1267, 2, none⟩ = some (.slice A1_2 l1_2.length c1_2) := hS_
 obtain ⟨Ao41, co41, eo41⟩ := Kd.Zx HO1284.out
 (first | subst eo41 | (injection eo41 with f1_ f2_ f3_; have f4_ := f1_.symm; have f5_ := f3_.symm; clear f1_ f2_ f3_; subst f4_; subst f5_))
 obtain ⟨Ao43, co43, eo43⟩ := Kd.Zx HO1287.out
 (first | subst eo43 | (injection eo43 with f1_ f2_ f3_; have f4_ := f1_.symm; have f5_ := f3_.symm; clear f1_ f2_ f3_; subst f4_; subst f5_))
 refine norm_ (a' := ?_) ?_ ?_
 rotate_left
 ·simp only [putAll, Act.put, List.setIfInBounds_toArray, List.set_cons_zero, List.set_cons_succ]
  rfl
 refine one_ (i := 15) (N := none) #[true, true, true, true, true, true, true, true, true, true, true, true, true, true, true, true, false] rfl rfl (one_of HT_.out Qa8) (by decide) (fun K hK => ?_)
 have hs40 : w39.cell? ⟨gb1289, 0, none⟩ = some (.bool false) := (Zl BK1289.out 0).trans rfl
 have hfs40 := Zn BK1289.out 0
 have hns40_0 := NB1266_1289.out
 have hns40_1 := NB1267_1289.out
 have hms40_0 := NB1289_1266.out
 have hms40_1 := NB1289_1267.out
 have hs42 : w39.cell? ⟨gb1289, 1, none⟩ = some (.slice none 0 0) := (Zl BK1289.out 1).trans rfl
 have hfs42 := Zn BK1289.out 1
 have hns42_0 := NB1266_1289.out
 have hns42_1 := NB1267_1289.out
 have hms42_0 := NB1289_1266.out
 have hms42_1 := NB1289_1267.out
 have hs44 : w39.cell? ⟨gb1289, 2, none⟩ = some (.slice none 0 0) := (Zl BK1289.out 2).trans rfl
 have hfs44 := Zn BK1289.out 2
 have hns44_0 := NB1266_1289.out
 have hns44_1 := NB1267_1289.out
 have hms44_0 := NB1289_1266.out
 have hms44_1 := NB1289_1267.out
 refine skip_ (w1 := ?_) (by rfl) rfl ?_ ?_
 rotate_left
 ·go_simp
  rfl
 refine hK.out _ _ ⟨((cell_far (p := ⟨gb1289, _, none⟩) NB1266_1289.out _).trans (((cell_far (p := ⟨gb1289, _, none⟩) NB1266_1289.out _).trans (((cell_far (p := ⟨gb1289, _, none⟩) NB1266_1289.out _).trans (hHeld.1)))))), ((cell_far (p := ⟨gb1289, _, none⟩) NB1266_1289.out _).trans (((cell_far (p := ⟨gb1289, _, none⟩) NB1266_1289.out _).trans (((cell_far (p := ⟨gb1289, _, none⟩) NB1266_1289.out _).trans (hHeld.2.1)))))), ((cell_far (p := ⟨gb1289, _, none⟩) NB1266_1289.out _).trans (((cell_far (p := ⟨gb1289, _, none⟩) NB1266_1289.out _).trans (((cell_far (p := ⟨gb1289, _, none⟩) NB1266_1289.out _).trans (hHeld.2.2.1)))))), ((cell_far (p := ⟨gb1289, _, none⟩) NB1267_1289.out _).trans (((cell_far (p := ⟨gb1289, _, none⟩) NB1267_1289.out _).trans (((cell_far (p := ⟨gb1289, _, none⟩) NB1267_1289.out _).trans (hHeld.2.2.2.1)))))), ((cell_far (p := ⟨gb1289, _, none⟩) NB1267_1289.out _).trans (((cell_far (p := ⟨gb1289, _, none⟩) NB1267_1289.out _).trans (((cell_far (p := ⟨gb1289, _, none⟩) NB1267_1289.out _).trans (hHeld.2.2.2.2.1)))))), ((cell_far (p := ⟨gb1289, _, none⟩) NB1267_1289.out _).trans (((cell_far (p := ⟨gb1289, _, none⟩) NB1267_1289.out _).trans (((cell_far (p := ⟨gb1289, _, none⟩) NB1267_1289.out _).trans (hHeld.2.2.2.2.2))))))⟩ (fun hHeld => ?_)
 clear hK K
 refine pure_ (i := 16) (N := some 8) (v := ?_) (a' := ?_) #[true, true, true, true, true, true, true, true, true, true, true, true, true, true, true, true, true] rfl rfl (any_of HT_.out Qa8) (fun _ _ _ h => h) (Or.inl ⟨by rfl, ?_⟩) ?_ ?_
 rotate_left
 ·intro w'
  go_simp
  with_reducible rfl
 rotate_left
 ·simp only [Act.put, List.setIfInBounds_toArray, List.set_cons_zero, List.set_cons_succ, Yi, Yj]
  rfl
 refine done_ (done_of HT_.out Qa8) ?_
 have hnb45 := NB1266_1267.out
 have hnc45 := NB1267_1266.out
 have hnb46 := NB1266_1289.out
 have hnc46 := NB1289_1266.out
 have hcz47_0 : w39.cell? ⟨gb1266, 0, none⟩ = some (.bool a0_0) := (Zl BK1266.out 0).trans rfl
 have hcz47_1 : w39.cell? ⟨gb1266, 1, none⟩ = some (.slice A0_1 l0_1.length c0_1) := (Zl BK1266.out 1).trans rfl
 have hcz47_2 : w39.cell? ⟨gb1266, 2, none⟩ = some (.slice A0_2 l0_2.length c0_2) := (Zl BK1266.out 2).trans rfl
 have hfz47_0 := Zn BK1266.out 0
 have hfz47_1 := Zn BK1266.out 1
 have hfz47_2 := Zn BK1266.out 2
 have hnb48 := NB1267_1289.out
 have hnc48 := NB1289_1267.out
 have hcz49_0 : w39.cell? ⟨gb1267, 0, none⟩ = some (.bool a1_0) := (Zl BK1267.out 0).trans rfl
 have hcz49_1 : w39.cell? ⟨gb1267, 1, none⟩ = some (.slice A1_1 l1_1.length c1_1) := (Zl BK1267.out 1).trans rfl
 have hcz49_2 : w39.cell? ⟨gb1267, 2, none⟩ = some (.slice A1_2 l1_2.length c1_2) := (Zl BK1267.out 2).trans rfl
 have hfz49_0 := Zn BK1267.out 0
 have hfz49_1 := Zn BK1267.out 1
 have hfz49_2 := Zn BK1267.out 2
 try go_wp2_with (first | ((with_reducible refine Zr (f := 49) rfl ?_); refine Yg (some 34) rfl rfl Try.func49 Qa8 rfl #[.bool a0_0, .slice A0_1 l0_1.length c0_1, .slice A1_1 l1_1.length c1_1] rfl Qa2 ?_; (with_reducible refine (r2_Make.calls k a0_0 _ _ l0_1 _ _ l1_1 t1290 t1291 t1294 t1297 _ ?side1 ?side2 ?side3 ?side4 A9.out).mono ?_); (case side1 => exact Kd.Ys HR0_1.out (Qa0)); (case side2 => exact HC0_1.out); (case side3 => exact Kd.Ys HR1_1.out (Qa0)); (case side4 => exact HC1_1.out); rintro e w50 ⟨v1292, v1295, rfl, ho0, ho1, hb⟩; refine ⟨_, rfl, ?_⟩; have HO1293 := Yt.mk (Kd.Yb (Kd.Ya (Kd.Ya (Kd.Ya (Kd.Ya ho0 (Kd.R_lt (by (with_reducible repeat (first | apply Kd.Zf | apply Kd.Ze | apply Kd.Zj)); exact (Kd.Zv (Kd.Yh (p := ⟨gb1289, 2, none⟩) (Kd.Yh (p := ⟨gb1289, 1, none⟩) (Kd.Yh (p := ⟨gb1289, 0, none⟩) (Kd.Yq HO1274.out BK1289.out (by decide)) (fun _ hk => hk.2) (.bool t1281)) (fun _ hk => hk.2) (.slice Ao41 t1282.length co41)) (fun _ hk => hk.2) (.slice Ao43 t1285.length co43)) (fun _ h_ => h_.1))))) (Kd.R_lt (by (with_reducible repeat (first | apply Kd.Zf | apply Kd.Ze | apply Kd.Zj)); exact (Kd.Zv (Kd.Yh (p := ⟨gb1289, 2, none⟩) (Kd.Yh (p := ⟨gb1289, 1, none⟩) (Kd.Yh (p := ⟨gb1289, 0, none⟩) (Kd.Yq HO1280.out BK1289.out (by decide)) (fun _ hk => hk.2) (.bool t1281)) (fun _ hk => hk.2) (.slice Ao41 t1282.length co41)) (fun _ hk => hk.2) (.slice Ao43 t1285.length co43)) (fun _ h_ => h_.1))))) (Kd.R_lt (by (with_reducible repeat (first | apply Kd.Zf | apply Kd.Ze | apply Kd.Zj)); exact (Kd.Zv (Kd.Yh (p := ⟨gb1289, 2, none⟩) (Kd.Yh (p := ⟨gb1289, 1, none⟩) (Kd.Yh (p := ⟨gb1289, 0, none⟩) (Kd.Yq HO1284.out BK1289.out (by decide)) (fun _ hk => hk.2) (.bool t1281)) (fun _ hk => hk.2) (.slice Ao41 t1282.length co41)) (fun _ hk => hk.2) (.slice Ao43 t1285.length co43)) (fun _ h_ => h_.1))))) (Kd.R_lt (by (with_reducible repeat (first | apply Kd.Zf | apply Kd.Ze | apply Kd.Zj)); exact (Kd.Zv (Kd.Yh (p := ⟨gb1289, 2, none⟩) (Kd.Yh (p := ⟨gb1289, 1, none⟩) (Kd.Yh (p := ⟨gb1289, 0, none⟩) (Kd.Yq HO1287.out BK1289.out (by decide)) (fun _ hk => hk.2) (.bool t1281)) (fun _ hk => hk.2) (.slice Ao41 t1282.length co41)) (fun _ hk => hk.2) (.slice Ao43 t1285.length co43)) (fun _ h_ => h_.1))))) (Zk (Qa0))); have HO1296 := Yt.mk (Kd.Yb (Kd.Ya (Kd.Ya (Kd.Ya (Kd.Ya ho1 (Kd.R_lt (by (with_reducible repeat (first | apply Kd.Zf | apply Kd.Ze | apply Kd.Zj)); exact (Kd.Zv (Kd.Yh (p := ⟨gb1289, 2, none⟩) (Kd.Yh (p := ⟨gb1289, 1, none⟩) (Kd.Yh (p := ⟨gb1289, 0, none⟩) (Kd.Yq HO1274.out BK1289.out (by decide)) (fun _ hk => hk.2) (.bool t1281)) (fun _ hk => hk.2) (.slice Ao41 t1282.length co41)) (fun _ hk => hk.2) (.slice Ao43 t1285.length co43)) (fun _ h_ => h_.1))))) (Kd.R_lt (by (with_reducible repeat (first | apply Kd.Zf | apply Kd.Ze | apply Kd.Zj)); exact (Kd.Zv (Kd.Yh (p := ⟨gb1289, 2, none⟩) (Kd.Yh (p := ⟨gb1289, 1, none⟩) (Kd.Yh (p := ⟨gb1289, 0, none⟩) (Kd.Yq HO1280.out BK1289.out (by decide)) (fun _ hk => hk.2) (.bool t1281)) (fun _ hk => hk.2) (.slice Ao41 t1282.length co41)) (fun _ hk => hk.2) (.slice Ao43 t1285.length co43)) (fun _ h_ => h_.1))))) (Kd.R_lt (by (with_reducible repeat (first | apply Kd.Zf | apply Kd.Ze | apply Kd.Zj)); exact (Kd.Zv (Kd.Yh (p := ⟨gb1289, 2, none⟩) (Kd.Yh (p := ⟨gb1289, 1, none⟩) (Kd.Yh (p := ⟨gb1289, 0, none⟩) (Kd.Yq HO1284.out BK1289.out (by decide)) (fun _ hk => hk.2) (.bool t1281)) (fun _ hk => hk.2) (.slice Ao41 t1282.length co41)) (fun _ hk => hk.2) (.slice Ao43 t1285.length co43)) (fun _ h_ => h_.1))))) (Kd.R_lt (by (with_reducible repeat (first | apply Kd.Zf | apply Kd.Ze | apply Kd.Zj)); exact (Kd.Zv (Kd.Yh (p := ⟨gb1289, 2, none⟩) (Kd.Yh (p := ⟨gb1289, 1, none⟩) (Kd.Yh (p := ⟨gb1289, 0, none⟩) (Kd.Yq HO1287.out BK1289.out (by decide)) (fun _ hk => hk.2) (.bool t1281)) (fun _ hk => hk.2) (.slice Ao41 t1282.length co41)) (fun _ hk => hk.2) (.slice Ao43 t1285.length co43)) (fun _ h_ => h_.1))))) (Zk (Qa0))); replace HO1274 := Yt.mk (Kd.Zv (Kd.Yl (Kd.Yl (Kd.R_old (by (with_reducible repeat (first | apply Kd.Zf | apply Kd.Ze | apply Kd.Zj)); exact (Kd.Zv (Kd.Yh (p := ⟨gb1289, 2, none⟩) (Kd.Yh (p := ⟨gb1289, 1, none⟩) (Kd.Yh (p := ⟨gb1289, 0, none⟩) (Kd.Yq HO1274.out BK1289.out (by decide)) (fun _ hk => hk.2) (.bool t1281)) (fun _ hk => hk.2) (.slice Ao41 t1282.length co41)) (fun _ hk => hk.2) (.slice Ao43 t1285.length co43)) (fun _ h_ => h_.1))) hb) (Kd.Zw ho0)) (Kd.Zw ho1)) (fun _ h_ => h_.1)); replace HO1280 := Yt.mk (Kd.Zv (Kd.Yl (Kd.Yl (Kd.R_old (by (with_reducible repeat (first | apply Kd.Zf | apply Kd.Ze | apply Kd.Zj)); exact (Kd.Zv (Kd.Yh (p := ⟨gb1289, 2, none⟩) (Kd.Yh (p := ⟨gb1289, 1, none⟩) (Kd.Yh (p := ⟨gb1289, 0, none⟩) (Kd.Yq HO1280.out BK1289.out (by decide)) (fun _ hk => hk.2) (.bool t1281)) (fun _ hk => hk.2) (.slice Ao41 t1282.length co41)) (fun _ hk => hk.2) (.slice Ao43 t1285.length co43)) (fun _ h_ => h_.1))) hb) (Kd.Zw ho0)) (Kd.Zw ho1)) (fun _ h_ => h_.1)); replace HO1284 := Yt.mk (Kd.Zv (Kd.Yl (Kd.Yl (Kd.R_old (by (with_reducible repeat (first | apply Kd.Zf | apply Kd.Ze | apply Kd.Zj)); exact (Kd.Zv (Kd.Yh (p := ⟨gb1289, 2, none⟩) (Kd.Yh (p := ⟨gb1289, 1, none⟩) (Kd.Yh (p := ⟨gb1289, 0, none⟩) (Kd.Yq HO1284.out BK1289.out (by decide)) (fun _ hk => hk.2) (.bool t1281)) (fun _ hk => hk.2) (.slice Ao41 t1282.length co41)) (fun _ hk => hk.2) (.slice Ao43 t1285.length co43)) (fun _ h_ => h_.1))) hb) (Kd.Zw ho0)) (Kd.Zw ho1)) (fun _ h_ => h_.1)); replace HO1287 := Yt.mk (Kd.Zv (Kd.Yl (Kd.Yl (Kd.R_old (by (with_reducible repeat (first | apply Kd.Zf | apply Kd.Ze | apply Kd.Zj)); exact (Kd.Zv (Kd.Yh (p := ⟨gb1289, 2, none⟩) (Kd.Yh (p := ⟨gb1289, 1, none⟩) (Kd.Yh (p := ⟨gb1289, 0, none⟩) (Kd.Yq HO1287.out BK1289.out (by decide)) (fun _ hk => hk.2) (.bool t1281)) (fun _ hk => hk.2) (.slice Ao41 t1282.length co41)) (fun _ hk => hk.2) (.slice Ao43 t1285.length co43)) (fun _ h_ => h_.1))) hb) (Kd.Zw ho0)) (Kd.Zw ho1)) (fun _ h_ => h_.1)); replace BK1266 := Yt.mk (Zq (g := gb1266) (o := .cells #[.bool a0_0, .slice A0_1 l0_1.length c0_1, .slice A0_2 l0_2.length c0_2] 50 (0, 0)) (by (with_reducible repeat (first | refine Zg ?_ _ | refine Zi ?_ | refine Zh ?_ _)); refine blk_far ?_ NB1266_1289.out _; (with_reducible repeat (first | refine Zg ?_ _ | refine Zi ?_ | refine Zh ?_ _)); refine blk_far ?_ NB1266_1289.out _; (with_reducible repeat (first | refine Zg ?_ _ | refine Zi ?_ | refine Zh ?_ _)); refine blk_far ?_ NB1266_1289.out _; (with_reducible repeat (first | refine Zg ?_ _ | refine Zi ?_ | refine Zh ?_ _)); exact BK1266.out) hb); replace BK1267 := Yt.mk (Zq (g := gb1267) (o := .cells #[.bool a1_0, .slice A1_1 l1_1.length c1_1, .slice A1_2 l1_2.length c1_2] 50 (0, 0)) (by (with_reducible repeat (first | refine Zg ?_ _ | refine Zi ?_ | refine Zh ?_ _)); refine blk_far ?_ NB1267_1289.out _; (with_reducible repeat (first | refine Zg ?_ _ | refine Zi ?_ | refine Zh ?_ _)); refine blk_far ?_ NB1267_1289.out _; (with_reducible repeat (first | refine Zg ?_ _ | refine Zi ?_ | refine Zh ?_ _)); refine blk_far ?_ NB1267_1289.out _; (with_reducible repeat (first | refine Zg ?_ _ | refine Zi ?_ | refine Zh ?_ _)); exact BK1267.out) hb); replace BK1289 := Yt.mk (Zq (g := gb1289) (o := .cells #[.bool t1281, .slice Ao41 t1282.length co41, .slice Ao43 t1285.length co43] 50 (0, 0)) (by (with_reducible repeat (first | refine Zg ?_ _ | refine Zi ?_ | refine Zh ?_ _)); refine Ym (cs := #[.bool t1281, .slice Ao41 t1282.length co41, .slice none 0 0]) ?_ 2 _ rfl; (with_reducible repeat (first | refine Zg ?_ _ | refine Zi ?_ | refine Zh ?_ _)); refine Ym (cs := #[.bool t1281, .slice none 0 0, .slice none 0 0]) ?_ 1 _ rfl; (with_reducible repeat (first | refine Zg ?_ _ | refine Zi ?_ | refine Zh ?_ _)); refine Ym (cs := #[.bool false, .slice none 0 0, .slice none 0 0]) ?_ 0 _ rfl; (with_reducible repeat (first | refine Zg ?_ _ | refine Zi ?_ | refine Zh ?_ _)); exact BK1289.out) hb); replace HB := Yt.mk (Zm (Qa0) hb); (try clear hb); (try clear hb2); (try clear hk); (try clear hi); (try clear ho0); (try clear ho1)) | ((with_reducible refine Yk (N := 9) rfl ?_); refine Yo ?hg (N := 9) ?hd (cs := #[.bool false, .slice none 0 0, .slice none 0 0]) (t := 50) ?hr ?_; (case hd => rfl); (case hg => rfl); (case hr => exact Qa9); intro gb1298 hg w51 hbox hb; replace HO1274 := Yt.mk (Kd.Yd (Qr1 HO1274.out) hb); replace HO1280 := Yt.mk (Kd.Yd (Qr1 HO1280.out) hb); replace HO1284 := Yt.mk (Kd.Yd (Qr1 HO1284.out) hb); replace HO1287 := Yt.mk (Kd.Yd (Qr1 HO1287.out) hb); replace HO1293 := Yt.mk (Kd.Yd (Qr1 HO1293.out) hb); replace HO1296 := Yt.mk (Kd.Yd (Qr1 HO1296.out) hb); have BK1298 := Yt.mk (hbox); have GW1298 := Yt.mk ((by rw [hg]; exact (Zk (Qa0)) : w.heap.size ≤ gb1298)); have GE1298 := Yt.mk ((by rw [hg]; exact (Zk (Qa0)) : w.heap.size ≤ gb1298)); replace HB := Yt.mk (Zm (Qa0) hb); have NB1266_1298 := Yt.mk ((by rw [hg]; exact Nat.ne_of_lt (blk_lt (g := gb1266) (o := .cells #[.bool a0_0, .slice A0_1 l0_1.length c0_1, .slice A0_2 l0_2.length c0_2] 50 (0, 0)) (Qr12 BK1266.out)) : gb1266 ≠ gb1298)); have NB1298_1266 := Yt.mk ((by rw [hg]; exact Nat.ne_of_gt (blk_lt (g := gb1266) (o := .cells #[.bool a0_0, .slice A0_1 l0_1.length c0_1, .slice A0_2 l0_2.length c0_2] 50 (0, 0)) (Qr12 BK1266.out)) : gb1298 ≠ gb1266)); replace BK1266 := Yt.mk (Zq (g := gb1266) (o := .cells #[.bool a0_0, .slice A0_1 l0_1.length c0_1, .slice A0_2 l0_2.length c0_2] 50 (0, 0)) (Qr12 BK1266.out) hb); have NB1267_1298 := Yt.mk ((by rw [hg]; exact Nat.ne_of_lt (blk_lt (g := gb1267) (o := .cells #[.bool a1_0, .slice A1_1 l1_1.length c1_1, .slice A1_2 l1_2.length c1_2] 50 (0, 0)) (Qr12 BK1267.out)) : gb1267 ≠ gb1298)); have NB1298_1267 := Yt.mk ((by rw [hg]; exact Nat.ne_of_gt (blk_lt (g := gb1267) (o := .cells #[.bool a1_0, .slice A1_1 l1_1.length c1_1, .slice A1_2 l1_2.length c1_2] 50 (0, 0)) (Qr12 BK1267.out)) : gb1298 ≠ gb1267)); replace BK1267 := Yt.mk (Zq (g := gb1267) (o := .cells #[.bool a1_0, .slice A1_1 l1_1.length c1_1, .slice A1_2 l1_2.length c1_2] 50 (0, 0)) (Qr12 BK1267.out) hb); have NB1289_1298 := Yt.mk ((by rw [hg]; exact Nat.ne_of_lt (blk_lt (g := gb1289) (o := .cells #[.bool t1281, .slice Ao41 t1282.length co41, .slice Ao43 t1285.length co43] 50 (0, 0)) (Qr12 BK1289.out)) : gb1289 ≠ gb1298)); have NB1298_1289 := Yt.mk ((by rw [hg]; exact Nat.ne_of_gt (blk_lt (g := gb1289) (o := .cells #[.bool t1281, .slice Ao41 t1282.length co41, .slice Ao43 t1285.length co43] 50 (0, 0)) (Qr12 BK1289.out)) : gb1298 ≠ gb1289)); replace BK1289 := Yt.mk (Zq (g := gb1289) (o := .cells #[.bool t1281, .slice Ao41 t1282.length co41, .slice Ao43 t1285.length co43] 50 (0, 0)) (Qr12 BK1289.out) hb); clear hb hbox hg; have hnb52 := NB1298_1266.out; have hnc52 := NB1266_1298.out; have hnb53 := NB1298_1267.out; have hnc53 := NB1267_1298.out; have hnb54 := NB1298_1289.out; have hnc54 := NB1289_1298.out; have hcz55_0 : w51.cell? ⟨gb1298, 0, none⟩ = some (.bool false) := (Zl BK1298.out 0).trans rfl; have hcz55_1 : w51.cell? ⟨gb1298, 1, none⟩ = some (.slice none 0 0) := (Zl BK1298.out 1).trans rfl; have hcz55_2 : w51.cell? ⟨gb1298, 2, none⟩ = some (.slice none 0 0) := (Zl BK1298.out 2).trans rfl; have hfz55_0 := Zn BK1298.out 0; have hfz55_1 := Zn BK1298.out 1; have hfz55_2 := Zn BK1298.out 2; obtain ⟨Ao56, co56, eo56⟩ := Kd.Zx HO1293.out; subst eo56; obtain ⟨Ao57, co57, eo57⟩ := Kd.Zx HO1296.out; subst eo57))
 have n0_ : Yt (Kd.R (Kd.int .u32) 47 (((w51.setCell ⟨gb1298, 0, none⟩ (.bool t1290)).setCell ⟨gb1298, 1, none⟩ (.slice Ao56 t1291.length co56)).setCell ⟨gb1298, 2, none⟩ (.slice Ao57 t1294.length co57)) w.heap.size (fun k_ => some k_ ≠ (v1279 : Value).ownBlock ∧ some k_ ≠ (.slice Ao41 t1282.length co41 : Value).ownBlock ∧ some k_ ≠ (.slice Ao43 t1285.length co43 : Value).ownBlock ∧ some k_ ≠ (.slice Ao56 t1291.length co56 : Value).ownBlock ∧ some k_ ≠ (.slice Ao57 t1294.length co57 : Value).ownBlock) v1273 y1272) := ⟨by (with_reducible repeat (first | apply Kd.Zf | apply Kd.Ze | apply Kd.Zj)); exact Kd.Zv (Kd.Yh (p := ⟨gb1298, 2, none⟩) (Kd.Yh (p := ⟨gb1298, 1, none⟩) (Kd.Yh (p := ⟨gb1298, 0, none⟩) (Kd.Yq HO1274.out BK1298.out (by decide)) (fun _ hk => hk.2) (.bool t1290)) (fun _ hk => hk.2) (.slice Ao56 t1291.length co56)) (fun _ hk => hk.2) (.slice Ao57 t1294.length co57)) (fun _ hk => ⟨hk.1.1.1.1, ⟨hk.1.1.1.2.1, ⟨hk.1.1.1.2.2, ⟨hk.1.1.2, hk.1.2⟩⟩⟩⟩)⟩
 have n1_ : Yt (Kd.R (Kd.int .u32) 47 (((w51.setCell ⟨gb1298, 0, none⟩ (.bool t1290)).setCell ⟨gb1298, 1, none⟩ (.slice Ao56 t1291.length co56)).setCell ⟨gb1298, 2, none⟩ (.slice Ao57 t1294.length co57)) w.heap.size (fun k_ => some k_ ≠ (v1273 : Value).ownBlock ∧ some k_ ≠ (.slice Ao41 t1282.length co41 : Value).ownBlock ∧ some k_ ≠ (.slice Ao43 t1285.length co43 : Value).ownBlock ∧ some k_ ≠ (.slice Ao56 t1291.length co56 : Value).ownBlock ∧ some k_ ≠ (.slice Ao57 t1294.length co57 : Value).ownBlock) v1279 y1278) := ⟨by (with_reducible repeat (first | apply Kd.Zf | apply Kd.Ze | apply Kd.Zj)); exact Kd.Zv (Kd.Yh (p := ⟨gb1298, 2, none⟩) (Kd.Yh (p := ⟨gb1298, 1, none⟩) (Kd.Yh (p := ⟨gb1298, 0, none⟩) (Kd.Yq HO1280.out BK1298.out (by decide)) (fun _ hk => hk.2) (.bool t1290)) (fun _ hk => hk.2) (.slice Ao56 t1291.length co56)) (fun _ hk => hk.2) (.slice Ao57 t1294.length co57)) (fun _ hk => ⟨hk.1.1.1.1, ⟨hk.1.1.1.2.1, ⟨hk.1.1.1.2.2, ⟨hk.1.1.2, hk.1.2⟩⟩⟩⟩)⟩
 have n2_ : Yt (Kd.R (Kd.int .u32) 47 (((w51.setCell ⟨gb1298, 0, none⟩ (.bool t1290)).setCell ⟨gb1298, 1, none⟩ (.slice Ao56 t1291.length co56)).setCell ⟨gb1298, 2, none⟩ (.slice Ao57 t1294.length co57)) w.heap.size (fun k_ => some k_ ≠ (v1273 : Value).ownBlock ∧ some k_ ≠ (v1279 : Value).ownBlock ∧ some k_ ≠ (.slice Ao43 t1285.length co43 : Value).ownBlock ∧ some k_ ≠ (.slice Ao56 t1291.length co56 : Value).ownBlock ∧ some k_ ≠ (.slice Ao57 t1294.length co57 : Value).ownBlock) (.slice Ao41 t1282.length co41) t1282) := ⟨by (with_reducible repeat (first | apply Kd.Zf | apply Kd.Ze | apply Kd.Zj)); exact Kd.Zv (Kd.Yh (p := ⟨gb1298, 2, none⟩) (Kd.Yh (p := ⟨gb1298, 1, none⟩) (Kd.Yh (p := ⟨gb1298, 0, none⟩) (Kd.Yq HO1284.out BK1298.out (by decide)) (fun _ hk => hk.2) (.bool t1290)) (fun _ hk => hk.2) (.slice Ao56 t1291.length co56)) (fun _ hk => hk.2) (.slice Ao57 t1294.length co57)) (fun _ hk => ⟨hk.1.1.1.1, ⟨hk.1.1.1.2.1, ⟨hk.1.1.1.2.2, ⟨hk.1.1.2, hk.1.2⟩⟩⟩⟩)⟩
 have n3_ : Yt (Kd.R (Kd.int .u32) 47 (((w51.setCell ⟨gb1298, 0, none⟩ (.bool t1290)).setCell ⟨gb1298, 1, none⟩ (.slice Ao56 t1291.length co56)).setCell ⟨gb1298, 2, none⟩ (.slice Ao57 t1294.length co57)) w.heap.size (fun k_ => some k_ ≠ (v1273 : Value).ownBlock ∧ some k_ ≠ (v1279 : Value).ownBlock ∧ some k_ ≠ (.slice Ao41 t1282.length co41 : Value).ownBlock ∧ some k_ ≠ (.slice Ao56 t1291.length co56 : Value).ownBlock ∧ some k_ ≠ (.slice Ao57 t1294.length co57 : Value).ownBlock) (.slice Ao43 t1285.length co43) t1285) := ⟨by (with_reducible repeat (first | apply Kd.Zf | apply Kd.Ze | apply Kd.Zj)); exact Kd.Zv (Kd.Yh (p := ⟨gb1298, 2, none⟩) (Kd.Yh (p := ⟨gb1298, 1, none⟩) (Kd.Yh (p := ⟨gb1298, 0, none⟩) (Kd.Yq HO1287.out BK1298.out (by decide)) (fun _ hk => hk.2) (.bool t1290)) (fun _ hk => hk.2) (.slice Ao56 t1291.length co56)) (fun _ hk => hk.2) (.slice Ao57 t1294.length co57)) (fun _ hk => ⟨hk.1.1.1.1, ⟨hk.1.1.1.2.1, ⟨hk.1.1.1.2.2, ⟨hk.1.1.2, hk.1.2⟩⟩⟩⟩)⟩
 have n4_ : Yt (Kd.R (Kd.int .u32) 47 (((w51.setCell ⟨gb1298, 0, none⟩ (.bool t1290)).setCell ⟨gb1298, 1, none⟩ (.slice Ao56 t1291.length co56)).setCell ⟨gb1298, 2, none⟩ (.slice Ao57 t1294.length co57)) w.heap.size (fun k_ => some k_ ≠ (v1273 : Value).ownBlock ∧ some k_ ≠ (v1279 : Value).ownBlock ∧ some k_ ≠ (.slice Ao41 t1282.length co41 : Value).ownBlock ∧ some k_ ≠ (.slice Ao43 t1285.length co43 : Value).ownBlock ∧ some k_ ≠ (.slice Ao57 t1294.length co57 : Value).ownBlock) (.slice Ao56 t1291.length co56) t1291) := ⟨by (with_reducible repeat (first | apply Kd.Zf | apply Kd.Ze | apply Kd.Zj)); exact Kd.Zv (Kd.Yh (p := ⟨gb1298, 2, none⟩) (Kd.Yh (p := ⟨gb1298, 1, none⟩) (Kd.Yh (p := ⟨gb1298, 0, none⟩) (Kd.Yq HO1293.out BK1298.out (by decide)) (fun _ hk => hk.2) (.bool t1290)) (fun _ hk => hk.2) (.slice Ao56 t1291.length co56)) (fun _ hk => hk.2) (.slice Ao57 t1294.length co57)) (fun _ hk => ⟨hk.1.1.1.1.2, ⟨hk.1.1.1.2, ⟨hk.1.1.2, ⟨hk.1.2, hk.1.1.1.1.1⟩⟩⟩⟩)⟩
 have n5_ : Yt (Kd.R (Kd.int .u32) 47 (((w51.setCell ⟨gb1298, 0, none⟩ (.bool t1290)).setCell ⟨gb1298, 1, none⟩ (.slice Ao56 t1291.length co56)).setCell ⟨gb1298, 2, none⟩ (.slice Ao57 t1294.length co57)) w.heap.size (fun k_ => some k_ ≠ (v1273 : Value).ownBlock ∧ some k_ ≠ (v1279 : Value).ownBlock ∧ some k_ ≠ (.slice Ao41 t1282.length co41 : Value).ownBlock ∧ some k_ ≠ (.slice Ao43 t1285.length co43 : Value).ownBlock ∧ some k_ ≠ (.slice Ao56 t1291.length co56 : Value).ownBlock) (.slice Ao57 t1294.length co57) t1294) := ⟨by (with_reducible repeat (first | apply Kd.Zf | apply Kd.Ze | apply Kd.Zj)); exact Kd.Zv (Kd.Yh (p := ⟨gb1298, 2, none⟩) (Kd.Yh (p := ⟨gb1298, 1, none⟩) (Kd.Yh (p := ⟨gb1298, 0, none⟩) (Kd.Yq HO1296.out BK1298.out (by decide)) (fun _ hk => hk.2) (.bool t1290)) (fun _ hk => hk.2) (.slice Ao56 t1291.length co56)) (fun _ hk => hk.2) (.slice Ao57 t1294.length co57)) (fun _ hk => ⟨hk.1.1.1.1.2, ⟨hk.1.1.1.2, ⟨hk.1.1.2, ⟨hk.1.2, hk.1.1.1.1.1⟩⟩⟩⟩)⟩
 have n6_ : Yt ((((w51.setCell ⟨gb1298, 0, none⟩ (.bool t1290)).setCell ⟨gb1298, 1, none⟩ (.slice Ao56 t1291.length co56)).setCell ⟨gb1298, 2, none⟩ (.slice Ao57 t1294.length co57)).heap[gb1266]? = some (.cells #[.bool a0_0, .slice A0_1 l0_1.length c0_1, .slice A0_2 l0_2.length c0_2] 50 (0, 0))) := ⟨by (with_reducible repeat (first | refine Zg ?_ _ | refine Zi ?_ | refine Zh ?_ _)); refine blk_far ?_ NB1266_1298.out _; (with_reducible repeat (first | refine Zg ?_ _ | refine Zi ?_ | refine Zh ?_ _)); refine blk_far ?_ NB1266_1298.out _; (with_reducible repeat (first | refine Zg ?_ _ | refine Zi ?_ | refine Zh ?_ _)); refine blk_far ?_ NB1266_1298.out _; (with_reducible repeat (first | refine Zg ?_ _ | refine Zi ?_ | refine Zh ?_ _)); exact BK1266.out⟩
 have n7_ : Yt ((((w51.setCell ⟨gb1298, 0, none⟩ (.bool t1290)).setCell ⟨gb1298, 1, none⟩ (.slice Ao56 t1291.length co56)).setCell ⟨gb1298, 2, none⟩ (.slice Ao57 t1294.length co57)).heap[gb1267]? = some (.cells #[.bool a1_0, .slice A1_1 l1_1.length c1_1, .slice A1_2 l1_2.length c1_2] 50 (0, 0))) := ⟨by (with_reducible repeat (first | refine Zg ?_ _ | refine Zi ?_ | refine Zh ?_ _)); refine blk_far ?_ NB1267_1298.out _; (with_reducible repeat (first | refine Zg ?_ _ | refine Zi ?_ | refine Zh ?_ _)); refine blk_far ?_ NB1267_1298.out _; (with_reducible repeat (first | refine Zg ?_ _ | refine Zi ?_ | refine Zh ?_ _)); refine blk_far ?_ NB1267_1298.out _; (with_reducible repeat (first | refine Zg ?_ _ | refine Zi ?_ | refine Zh ?_ _)); exact BK1267.out⟩
 have n8_ : Yt ((((w51.setCell ⟨gb1298, 0, none⟩ (.bool t1290)).setCell ⟨gb1298, 1, none⟩ (.slice Ao56 t1291.length co56)).setCell ⟨gb1298, 2, none⟩ (.slice Ao57 t1294.length co57)).heap[gb1289]? = some (.cells #[.bool t1281, .slice Ao41 t1282.length co41, .slice Ao43 t1285.length co43] 50 (0, 0))) := ⟨by (with_reducible repeat (first | refine Zg ?_ _ | refine Zi ?_ | refine Zh ?_ _)); refine blk_far ?_ NB1289_1298.out _; (with_reducible repeat (first | refine Zg ?_ _ | refine Zi ?_ | refine Zh ?_ _)); refine blk_far ?_ NB1289_1298.out _; (with_reducible repeat (first | refine Zg ?_ _ | refine Zi ?_ | refine Zh ?_ _)); refine blk_far ?_ NB1289_1298.out _; (with_reducible repeat (first | refine Zg ?_ _ | refine Zi ?_ | refine Zh ?_ _)); exact BK1289.out⟩
 have n9_ : Yt ((((w51.setCell ⟨gb1298, 0, none⟩ (.bool t1290)).setCell ⟨gb1298, 1, none⟩ (.slice Ao56 t1291.length co56)).setCell ⟨gb1298, 2, none⟩ (.slice Ao57 t1294.length co57)).heap[gb1298]? = some (.cells #[.bool t1290, .slice Ao56 t1291.length co56, .slice Ao57 t1294.length co57] 50 (0, 0))) := ⟨by (with_reducible repeat (first | refine Zg ?_ _ | refine Zi ?_ | refine Zh ?_ _)); refine Ym (cs := #[.bool t1290, .slice Ao56 t1291.length co56, .slice none 0 0]) ?_ 2 _ rfl; (with_reducible repeat (first | refine Zg ?_ _ | refine Zi ?_ | refine Zh ?_ _)); refine Ym (cs := #[.bool t1290, .slice none 0 0, .slice none 0 0]) ?_ 1 _ rfl; (with_reducible repeat (first | refine Zg ?_ _ | refine Zi ?_ | refine Zh ?_ _)); refine Ym (cs := #[.bool false, .slice none 0 0, .slice none 0 0]) ?_ 0 _ rfl; (with_reducible repeat (first | refine Zg ?_ _ | refine Zi ?_ | refine Zh ?_ _)); exact BK1298.out⟩
 have n10_ : Yt (Below w.heap.size w (((w51.setCell ⟨gb1298, 0, none⟩ (.bool t1290)).setCell ⟨gb1298, 1, none⟩ (.slice Ao56 t1291.length co56)).setCell ⟨gb1298, 2, none⟩ (.slice Ao57 t1294.length co57))) := ⟨Qa0⟩
 (try clear HO1274)
 (try clear HO1280)
 (try clear HO1284)
 (try clear HO1287)
 (try clear HO1293)
 (try clear HO1296)
 (try clear BK1266)
 (try clear BK1267)
 (try clear BK1289)
 (try clear BK1298)
 (try clear HB)
 generalize (((w51.setCell ⟨gb1298, 0, none⟩ (.bool t1290)).setCell ⟨gb1298, 1, none⟩ (.slice Ao56 t1291.length co56)).setCell ⟨gb1298, 2, none⟩ (.slice Ao57 t1294.length co57)) = w58 at n0_ n1_ n2_ n3_ n4_ n5_ n6_ n7_ n8_ n9_ n10_ ⊢
 have HO1274 := n0_
 have HO1280 := n1_
 have HO1284 := n2_
 have HO1287 := n3_
 have HO1293 := n4_
 have HO1296 := n5_
 have BK1266 := n6_
 have BK1267 := n7_
 have BK1289 := n8_
 have BK1298 := n9_
 have HB := n10_
 clear n0_ n1_ n2_ n3_ n4_ n5_ n6_ n7_ n8_ n9_ n10_
 replace HO1274 := Yt.mk (Kd.Zj HO1274.out)
 replace HO1280 := Yt.mk (Kd.Zj HO1280.out)
 replace HO1284 := Yt.mk (Kd.Zj HO1284.out)
 replace HO1287 := Yt.mk (Kd.Zj HO1287.out)
 replace HO1293 := Yt.mk (Kd.Zj HO1293.out)
 replace HO1296 := Yt.mk (Kd.Zj HO1296.out)
 replace BK1266 := Yt.mk (Zi BK1266.out)
 replace BK1267 := Yt.mk (Zi BK1267.out)
 replace BK1289 := Yt.mk (Zi BK1289.out)
 replace BK1298 := Yt.mk (Zi BK1298.out)
 replace HB := Yt.mk (Zc HB.out)
 refine start_ (n := 35) (S := fun w' => w'.cell? ⟨gb1266, 0, none⟩ = some (.bool a0_0) ∧ w'.cell? ⟨gb1266, 1, none⟩ = some (.slice A0_1 l0_1.length c0_1) ∧ w'.cell? ⟨gb1266, 2, none⟩ = some (.slice A0_2 l0_2.length c0_2) ∧ w'.cell? ⟨gb1267, 0, none⟩ = some (.bool a1_0) ∧ w'.cell? ⟨gb1267, 1, none⟩ = some (.slice A1_1 l1_1.length c1_1) ∧ w'.cell? ⟨gb1267, 2, none⟩ = some (.slice A1_2 l1_2.length c1_2) ∧ w'.cell? ⟨gb1289, 0, none⟩ = some (.bool t1281) ∧ w'.cell? ⟨gb1289, 1, none⟩ = some (.slice Ao41 t1282.length co41) ∧ w'.cell? ⟨gb1289, 2, none⟩ = some (.slice Ao43 t1285.length co43) ∧ w'.cell? ⟨gb1298, 0, none⟩ = some (.bool t1290) ∧ w'.cell? ⟨gb1298, 1, none⟩ = some (.slice Ao56 t1291.length co56) ∧ w'.cell? ⟨gb1298, 2, none⟩ = some (.slice Ao57 t1294.length co57)) (ds := []) #[false, false, false, false, false, false, false, false, false, false, false, false, false, false, false, false, false, false, false, false, false, false, false, false, false, false, false, false, false, false, false, false, false, false, false] Qa8 rfl rfl ⟨(Zl BK1266.out 0).trans rfl, (Zl BK1266.out 1).trans rfl, (Zl BK1266.out 2).trans rfl, (Zl BK1267.out 0).trans rfl, (Zl BK1267.out 1).trans rfl, (Zl BK1267.out 2).trans rfl, (Zl BK1289.out 0).trans rfl, (Zl BK1289.out 1).trans rfl, (Zl BK1289.out 2).trans rfl, (Zl BK1298.out 0).trans rfl, (Zl BK1298.out 1).trans rfl, (Zl BK1298.out 2).trans rfl⟩ (fun hHeld => ?_); refine with_tabW w2_RatioMakes.tab5 w2_RatioMakes.bits5 (fun HT_ HW_ => ?_)
 generalize w58.drew = w59 at HO1274 HO1280 HO1284 HO1287 HO1293 HO1296 BK1266 BK1267 BK1289 BK1298 HB hHeld ⊢
 refine take_ (i := 0) (N := some 37) (v := ?_) (a' := ?_) #[true, false, false, false, false, false, false, false, false, false, false, false, false, false, false, false, false, false, false, false, false, false, false, false, false, false, false, false, false, false, false, false, false, false, false] rfl rfl (take_ofW HT_.out HW_.out Qa8) (fun _ _ _ h => h) (Or.inl ⟨by rfl, ?_⟩) hHeld ?_ ?_
 rotate_left
 ·rintro w' ⟨s0, s1, s2, s3, s4, s5, s6, s7, s8, s9, s10, s11⟩
  go_simp
  with_reducible rfl
 rotate_left
 ·simp only [Act.put, List.setIfInBounds_toArray, List.set_cons_zero, List.set_cons_succ, Yi, Yj]
  rfl
 refine take_ (i := 3) (N := some 40) (v := ?_) (a' := ?_) #[true, false, false, true, false, false, false, false, false, false, false, false, false, false, false, false, false, false, false, false, false, false, false, false, false, false, false, false, false, false, false, false, false, false, false] rfl rfl (take_ofW HT_.out HW_.out Qa8) (fun _ _ _ h => h) (Or.inl ⟨by rfl, ?_⟩) hHeld ?_ ?_
 rotate_left
 ·rintro w' ⟨s0, s1, s2, s3, s4, s5, s6, s7, s8, s9, s10, s11⟩
  go_simp
  with_reducible rfl
 rotate_left
 ·simp only [Act.put, List.setIfInBounds_toArray, List.set_cons_zero, List.set_cons_succ, Yi, Yj]
  rfl
 refine one_ (i := 1) (N := some 38) #[true, true, false, true, false, false, false, false, false, false, false, false, false, false, false, false, false, false, false, false, false, false, false, false, false, false, false, false, false, false, false, false, false, false, false] rfl rfl (one_of HT_.out Qa8) (by decide) (fun K hK => ?_)
 refine goes_ Try.func51 Qa8 rfl #[.agg #[.bool a0_0, .slice A0_1 l0_1.length c0_1, .slice A0_2 l0_2.length c0_2]] (by rfl) rfl rfl Qa2 ?_
 with_reducible refine (w2_own.calls a0_0 _ _ l0_1 _ _ l0_2 t1299 t1300 t1303 _ ?side1 ?side2 ?side3 ?side4 A10.out).mono ?_
 (case side1 => exact Qe11 (Kd.Ys HR0_1.out HB.out))
 (case side2 => exact HC0_1.out)
 (case side3 => exact Qe11 (Kd.Ys HR0_2.out HB.out))
 (case side4 => exact HC0_2.out)
 rintro e w60 ⟨v1301, v1304, rfl, ho0, ho1, hb⟩
 refine ⟨_, rfl, ?_⟩
 have HO1302 := Yt.mk (Kd.Yb (Kd.Ya (Kd.Ya (Kd.Ya (Kd.Ya (Kd.Ya (Kd.Ya ho0 (Kd.R_lt (Qr1 HO1274.out))) (Kd.R_lt (Qr1 HO1280.out))) (Kd.R_lt (Qr1 HO1284.out))) (Kd.R_lt (Qr1 HO1287.out))) (Kd.R_lt (Qr1 HO1293.out))) (Kd.R_lt (Qr1 HO1296.out))) (Zk (Qa0)))
 have HO1305 := Yt.mk (Kd.Yb (Kd.Ya (Kd.Ya (Kd.Ya (Kd.Ya (Kd.Ya (Kd.Ya ho1 (Kd.R_lt (Qr1 HO1274.out))) (Kd.R_lt (Qr1 HO1280.out))) (Kd.R_lt (Qr1 HO1284.out))) (Kd.R_lt (Qr1 HO1287.out))) (Kd.R_lt (Qr1 HO1293.out))) (Kd.R_lt (Qr1 HO1296.out))) (Zk (Qa0)))
 replace HO1274 := Yt.mk (Kd.Zv (Kd.Yl (Kd.Yl (Kd.R_old (Qr1 HO1274.out) hb) (Kd.Zw ho0)) (Kd.Zw ho1)) (fun _ h_ => h_.1))
 replace HO1280 := Yt.mk (Kd.Zv (Kd.Yl (Kd.Yl (Kd.R_old (Qr1 HO1280.out) hb) (Kd.Zw ho0)) (Kd.Zw ho1)) (fun _ h_ => h_.1))
 replace HO1284 := Yt.mk (Kd.Zv (Kd.Yl (Kd.Yl (Kd.R_old (Qr1 HO1284.out) hb) (Kd.Zw ho0)) (Kd.Zw ho1)) (fun _ h_ => h_.1))
 replace HO1287 := Yt.mk (Kd.Zv (Kd.Yl (Kd.Yl (Kd.R_old (Qr1 HO1287.out) hb) (Kd.Zw ho0)) (Kd.Zw ho1)) (fun _ h_ => h_.1))
 replace HO1293 := Yt.mk (Kd.Zv (Kd.Yl (Kd.Yl (Kd.R_old (Qr1 HO1293.out) hb) (Kd.Zw ho0)) (Kd.Zw ho1)) (fun _ h_ => h_.1))
 replace HO1296 := Yt.mk (Kd.Zv (Kd.Yl (Kd.Yl (Kd.R_old (Qr1 HO1296.out) hb) (Kd.Zw ho0)) (Kd.Zw ho1)) (fun _ h_ => h_.1))
 replace BK1266 := Yt.mk (Zq (g := gb1266) (o := .cells #[.bool a0_0, .slice A0_1 l0_1.length c0_1, .slice A0_2 l0_2.length c0_2] 50 (0, 0)) (Qr12 BK1266.out) hb)
 replace BK1267 := Yt.mk (Zq (g := gb1267) (o := .cells #[.bool a1_0, .slice A1_1 l1_1.length c1_1, .slice A1_2 l1_2.length c1_2] 50 (0, 0)) (Qr12 BK1267.out) hb)
 replace BK1289 := Yt.mk (Zq (g := gb1289) (o := .cells #[.bool t1281, .slice Ao41 t1282.length co41, .slice Ao43 t1285.length co43] 50 (0, 0)) (Qr12 BK1289.out) hb)
 replace BK1298 := Yt.mk (Zq (g := gb1298) (o := .cells #[.bool t1290, .slice Ao56 t1291.length co56, .slice Ao57 t1294.length co57] 50 (0, 0)) (Qr12 BK1298.out) hb)
 replace HB := Yt.mk (Zm (Qa0) hb)
 (try clear hb)
 (try clear hb2)
 (try clear hk)
 (try clear hi)
 (try clear ho0)
 (try clear ho1)
 obtain ⟨Ao61, co61, eo61⟩ := Kd.Zx HO1302.out
 (first | subst eo61 | (injection eo61 with f1_ f2_ f3_; have f4_ := f1_.symm; have f5_ := f3_.symm; clear f1_ f2_ f3_; subst f4_; subst f5_))
 obtain ⟨Ao62, co62, eo62⟩ := Kd.Zx HO1305.out
 (first | subst eo62 | (injection eo62 with f1_ f2_ f3_; have f4_ := f1_.symm; have f5_ := f3_.symm; clear f1_ f2_ f3_; subst f4_; subst f5_))
 refine hK.out _ _ ⟨(Zl BK1266.out 0).trans rfl, (Zl BK1266.out 1).trans rfl, (Zl BK1266.out 2).trans rfl, (Zl BK1267.out 0).trans rfl, (Zl BK1267.out 1).trans rfl, (Zl BK1267.out 2).trans rfl, (Zl BK1289.out 0).trans rfl, (Zl BK1289.out 1).trans rfl, (Zl BK1289.out 2).trans rfl, (Zl BK1298.out 0).trans rfl, (Zl BK1298.out 1).trans rfl, (Zl BK1298.out 2).trans rfl⟩ (fun hHeld => ?_)
 clear hK K
 refine norm_ (a' := ?_) ?_ ?_
 rotate_left
 ·show Act.put _ (some 38) _ = _
  simp only [Act.put, List.setIfInBounds_toArray, List.set_cons_zero, List.set_cons_succ, Yi, Yj]
  rfl
 refine one_ (i := 2) (N := some 39) #[true, true, true, true, false, false, false, false, false, false, false, false, false, false, false, false, false, false, false, false, false, false, false, false, false, false, false, false, false, false, false, false, false, false, false] rfl rfl (one_of HT_.out Qa8) (by decide) (fun K hK => ?_)
 refine goes_ Try.func50 Qa8 rfl #[.agg #[.bool t1299, .slice Ao61 t1300.length co61, .slice Ao62 t1303.length co62]] (by rfl) rfl rfl Qa2 ?_
 with_reducible refine (ratio_Form.calls k t1299 _ _ t1300 _ _ t1303 t1306 _ ?side1 ?side2 ?side3 ?side4 A11.out).mono ?_
 (case side1 => exact Qe11 (Kd.Zs HO1302.out).2.2)
 (case side2 => exact (Kd.Zs HO1302.out).2.1)
 (case side3 => exact Qe11 (Kd.Zs HO1305.out).2.2)
 (case side4 => exact (Kd.Zs HO1305.out).2.1)
 rintro e w63 ⟨rfl, hb⟩
 refine ⟨_, rfl, ?_⟩
 replace HO1274 := Yt.mk (Kd.Yd (Qr1 HO1274.out) hb)
 replace HO1280 := Yt.mk (Kd.Yd (Qr1 HO1280.out) hb)
 replace HO1284 := Yt.mk (Kd.Yd (Qr1 HO1284.out) hb)
 replace HO1287 := Yt.mk (Kd.Yd (Qr1 HO1287.out) hb)
 replace HO1293 := Yt.mk (Kd.Yd (Qr1 HO1293.out) hb)
 replace HO1296 := Yt.mk (Kd.Yd (Qr1 HO1296.out) hb)
 replace HO1302 := Yt.mk (Kd.Yd (Qr1 HO1302.out) hb)
 replace HO1305 := Yt.mk (Kd.Yd (Qr1 HO1305.out) hb)
 replace BK1266 := Yt.mk (Zq (g := gb1266) (o := .cells #[.bool a0_0, .slice A0_1 l0_1.length c0_1, .slice A0_2 l0_2.length c0_2] 50 (0, 0)) (Qr12 BK1266.out) hb)
 replace BK1267 := Yt.mk (Zq (g := gb1267) (o := .cells #[.bool a1_0, .slice A1_1 l1_1.length c1_1, .slice A1_2 l1_2.length c1_2] 50 (0, 0)) (Qr12 BK1267.out) hb)
 replace BK1289 := Yt.mk (Zq (g := gb1289) (o := .cells #[.bool t1281, .slice Ao41 t1282.length co41, .slice Ao43 t1285.length co43] 50 (0, 0)) (Qr12 BK1289.out) hb)
 replace BK1298 := Yt.mk (Zq (g := gb1298) (o := .cells #[.bool t1290, .slice Ao56 t1291.length co56, .slice Ao57 t1294.length co57] 50 (0, 0)) (Qr12 BK1298.out) hb)
 replace HB := Yt.mk (Zm (Qa0) hb)
 (try clear hb)
 (try clear hb2)
 (try clear hk)
 (try clear hi)
 refine hK.out _ _ ⟨(Zl BK1266.out 0).trans rfl, (Zl BK1266.out 1).trans rfl, (Zl BK1266.out 2).trans rfl, (Zl BK1267.out 0).trans rfl, (Zl BK1267.out 1).trans rfl, (Zl BK1267.out 2).trans rfl, (Zl BK1289.out 0).trans rfl, (Zl BK1289.out 1).trans rfl, (Zl BK1289.out 2).trans rfl, (Zl BK1298.out 0).trans rfl, (Zl BK1298.out 1).trans rfl, (Zl BK1298.out 2).trans rfl⟩ (fun hHeld => ?_)
 clear hK K
 refine norm_ (a' := ?_) ?_ ?_
 rotate_left
 ·show Act.put _ (some 39) _ = _
  simp only [Act.put, List.setIfInBounds_toArray, List.set_cons_zero, List.set_cons_succ, Yi, Yj]
  rfl
 refine one_ (i := 4) (N := some 41) #[true, true, true, true, true, false, false, false, false, false, false, false, false, false, false, false, false, false, false, false, false, false, false, false, false, false, false, false, false, false, false, false, false, false, false] rfl rfl (one_of HT_.out Qa8) (by decide) (fun K hK => ?_)
 refine goes_ Try.func52 Qa8 rfl #[.agg #[.bool a0_0, .slice A0_1 l0_1.length c0_1, .slice A0_2 l0_2.length c0_2]] (by rfl) rfl rfl Qa2 ?_
 with_reducible refine (r2_Form.calls k a0_0 _ _ l0_1 _ _ l0_2 t1307 _ ?side1 ?side2 ?side3 ?side4 A12.out).mono ?_
 (case side1 => exact Qe11 (Kd.Ys HR0_1.out HB.out))
 (case side2 => exact HC0_1.out)
 (case side3 => exact Qe11 (Kd.Ys HR0_2.out HB.out))
 (case side4 => exact HC0_2.out)
 rintro e w64 ⟨rfl, hb⟩
 refine ⟨_, rfl, ?_⟩
 replace HO1274 := Yt.mk (Kd.Yd (Qr1 HO1274.out) hb)
 replace HO1280 := Yt.mk (Kd.Yd (Qr1 HO1280.out) hb)
 replace HO1284 := Yt.mk (Kd.Yd (Qr1 HO1284.out) hb)
 replace HO1287 := Yt.mk (Kd.Yd (Qr1 HO1287.out) hb)
 replace HO1293 := Yt.mk (Kd.Yd (Qr1 HO1293.out) hb)
 replace HO1296 := Yt.mk (Kd.Yd (Qr1 HO1296.out) hb)
 replace HO1302 := Yt.mk (Kd.Yd (Qr1 HO1302.out) hb)
 replace HO1305 := Yt.mk (Kd.Yd (Qr1 HO1305.out) hb)
 replace BK1266 := Yt.mk (Zq (g := gb1266) (o := .cells #[.bool a0_0, .slice A0_1 l0_1.length c0_1, .slice A0_2 l0_2.length c0_2] 50 (0, 0)) (Qr12 BK1266.out) hb)
 replace BK1267 := Yt.mk (Zq (g := gb1267) (o := .cells #[.bool a1_0, .slice A1_1 l1_1.length c1_1, .slice A1_2 l1_2.length c1_2] 50 (0, 0)) (Qr12 BK1267.out) hb)
 replace BK1289 := Yt.mk (Zq (g := gb1289) (o := .cells #[.bool t1281, .slice Ao41 t1282.length co41, .slice Ao43 t1285.length co43] 50 (0, 0)) (Qr12 BK1289.out) hb)
 replace BK1298 := Yt.mk (Zq (g := gb1298) (o := .cells #[.bool t1290, .slice Ao56 t1291.length co56, .slice Ao57 t1294.length co57] 50 (0, 0)) (Qr12 BK1298.out) hb)
 replace HB := Yt.mk (Zm (Qa0) hb)
 (try clear hb)
 (try clear hb2)
 (try clear hk)
 (try clear hi)
 refine hK.out _ _ ⟨(Zl BK1266.out 0).trans rfl, (Zl BK1266.out 1).trans rfl, (Zl BK1266.out 2).trans rfl, (Zl BK1267.out 0).trans rfl, (Zl BK1267.out 1).trans rfl, (Zl BK1267.out 2).trans rfl, (Zl BK1289.out 0).trans rfl, (Zl BK1289.out 1).trans rfl, (Zl BK1289.out 2).trans rfl, (Zl BK1298.out 0).trans rfl, (Zl BK1298.out 1).trans rfl, (Zl BK1298.out 2).trans rfl⟩ (fun hHeld => ?_)
 clear hK K
 refine norm_ (a' := ?_) ?_ ?_
 rotate_left
 ·show Act.put _ (some 41) _ = _
  simp only [Act.put, List.setIfInBounds_toArray, List.set_cons_zero, List.set_cons_succ, Yi, Yj]
  rfl
 refine pure_ (i := 5) (N := some 42) (v := ?_) (a' := ?_) #[true, true, true, true, true, true, false, false, false, false, false, false, false, false, false, false, false, false, false, false, false, false, false, false, false, false, false, false, false, false, false, false, false, false, false] rfl rfl (any_of HT_.out Qa8) (fun _ _ _ h => h) (Or.inl ⟨by rfl, ?_⟩) ?_ ?_
 rotate_left
 ·intro w'
  go_simp
  with_reducible rfl
 rotate_left
 ·simp only [Act.put, List.setIfInBounds_toArray, List.set_cons_zero, List.set_cons_succ, Yi, Yj]
  rfl
 refine pure_ (i := 6) (N := some 43) (v := ?_) (a' := ?_) #[true, true, true, true, true, true, true, false, false, false, false, false, false, false, false, false, false, false, false, false, false, false, false, false, false, false, false, false, false, false, false, false, false, false, false] rfl rfl (any_of HT_.out Qa8) (fun _ _ _ h => h) (Or.inl ⟨by rfl, ?_⟩) ?_ ?_
 rotate_left
 ·intro w'
  go_simp
  with_reducible rfl
 rotate_left
 ·simp only [Act.put, List.setIfInBounds_toArray, List.set_cons_zero, List.set_cons_succ, Yi, Yj]
  rfl
 refine take_ (i := 7) (N := some 44) (v := ?_) (a' := ?_) #[true, true, true, true, true, true, true, true, false, false, false, false, false, false, false, false, false, false, false, false, false, false, false, false, false, false, false, false, false, false, false, false, false, false, false] rfl rfl (take_ofW HT_.out HW_.out Qa8) (fun _ _ _ h => h) (Or.inl ⟨by rfl, ?_⟩) hHeld ?_ ?_
 rotate_left
 ·rintro w' ⟨s0, s1, s2, s3, s4, s5, s6, s7, s8, s9, s10, s11⟩
  go_simp
  with_reducible rfl
 rotate_left
 ·simp only [Act.put, List.setIfInBounds_toArray, List.set_cons_zero, List.set_cons_succ, Yi, Yj]
  rfl
 refine take_ (i := 9) (N := some 46) (v := ?_) (a' := ?_) #[true, true, true, true, true, true, true, true, false, true, false, false, false, false, false, false, false, false, false, false, false, false, false, false, false, false, false, false, false, false, false, false, false, false, false] rfl rfl (take_ofW HT_.out HW_.out Qa8) (fun _ _ _ h => h) (Or.inl ⟨by rfl, ?_⟩) hHeld ?_ ?_
 rotate_left
 ·rintro w' ⟨s0, s1, s2, s3, s4, s5, s6, s7, s8, s9, s10, s11⟩
  go_simp
  with_reducible rfl
 rotate_left
 ·simp only [Act.put, List.setIfInBounds_toArray, List.set_cons_zero, List.set_cons_succ, Yi, Yj]
  rfl
 refine take_ (i := 12) (N := some 49) (v := ?_) (a' := ?_) #[true, true, true, true, true, true, true, true, false, true, false, false, true, false, false, false, false, false, false, false, false, false, false, false, false, false, false, false, false, false, false, false, false, false, false] rfl rfl (take_ofW HT_.out HW_.out Qa8) (fun _ _ _ h => h) (Or.inl ⟨by rfl, ?_⟩) hHeld ?_ ?_
 rotate_left
 ·rintro w' ⟨s0, s1, s2, s3, s4, s5, s6, s7, s8, s9, s10, s11⟩
  go_simp
  with_reducible rfl
 rotate_left
 ·simp only [Act.put, List.setIfInBounds_toArray, List.set_cons_zero, List.set_cons_succ, Yi, Yj]
  rfl
 refine take_ (i := 13) (N := some 50) (v := ?_) (a' := ?_) #[true, true, true, true, true, true, true, true, false, true, false, false, true, true, false, false, false, false, false, false, false, false, false, false, false, false, false, false, false, false, false, false, false, false, false] rfl rfl (take_ofW HT_.out HW_.out Qa8) (fun _ _ _ h => h) (Or.inl ⟨by rfl, ?_⟩) hHeld ?_ ?_
 rotate_left
 ·rintro w' ⟨s0, s1, s2, s3, s4, s5, s6, s7, s8, s9, s10, s11⟩
  go_simp
  with_reducible rfl
 rotate_left
 ·simp only [Act.put, List.setIfInBounds_toArray, List.set_cons_zero, List.set_cons_succ, Yi, Yj]
  rfl
 refine one_ (i := 8) (N := some 45) #[true, true, true, true, true, true, true, true, true, true, false, false, true, true, false, false, false, false, false, false, false, false, false, false, false, false, false, false, false, false, false, false, false, false, false] rfl rfl (one_of HT_.out Qa8) (by decide) (fun K hK => ?_)
 refine goes_ Try.func51 Qa8 rfl #[.agg #[.bool a0_0, .slice A0_1 l0_1.length c0_1, .slice A0_2 l0_2.length c0_2]] (by rfl) rfl rfl Qa2 ?_
 with_reducible refine (w2_own.calls a0_0 _ _ l0_1 _ _ l0_2 t1308 t1309 t1312 _ ?side1 ?side2 ?side3 ?side4 A14.out).mono ?_
 (case side1 => exact Qe11 (Kd.Ys HR0_1.out HB.out))
 (case side2 => exact HC0_1.out)
 (case side3 => exact Qe11 (Kd.Ys HR0_2.out HB.out))
 (case side4 => exact HC0_2.out)
 rintro e w65 ⟨v1310, v1313, rfl, ho0, ho1, hb⟩
 refine ⟨_, rfl, ?_⟩
 have HO1311 := Yt.mk (Kd.Yb (Kd.Ya (Kd.Ya (Kd.Ya (Kd.Ya (Kd.Ya (Kd.Ya (Kd.Ya (Kd.Ya ho0 (Kd.R_lt (Qr1 HO1274.out))) (Kd.R_lt (Qr1 HO1280.out))) (Kd.R_lt (Qr1 HO1284.out))) (Kd.R_lt (Qr1 HO1287.out))) (Kd.R_lt (Qr1 HO1293.out))) (Kd.R_lt (Qr1 HO1296.out))) (Kd.R_lt (Qr1 HO1302.out))) (Kd.R_lt (Qr1 HO1305.out))) (Zk (Qa0)))
 have HO1314 := Yt.mk (Kd.Yb (Kd.Ya (Kd.Ya (Kd.Ya (Kd.Ya (Kd.Ya (Kd.Ya (Kd.Ya (Kd.Ya ho1 (Kd.R_lt (Qr1 HO1274.out))) (Kd.R_lt (Qr1 HO1280.out))) (Kd.R_lt (Qr1 HO1284.out))) (Kd.R_lt (Qr1 HO1287.out))) (Kd.R_lt (Qr1 HO1293.out))) (Kd.R_lt (Qr1 HO1296.out))) (Kd.R_lt (Qr1 HO1302.out))) (Kd.R_lt (Qr1 HO1305.out))) (Zk (Qa0)))
 replace HO1274 := Yt.mk (Kd.Zv (Kd.Yl (Kd.Yl (Kd.R_old (Qr1 HO1274.out) hb) (Kd.Zw ho0)) (Kd.Zw ho1)) (fun _ h_ => h_.1))
 replace HO1280 := Yt.mk (Kd.Zv (Kd.Yl (Kd.Yl (Kd.R_old (Qr1 HO1280.out) hb) (Kd.Zw ho0)) (Kd.Zw ho1)) (fun _ h_ => h_.1))
 replace HO1284 := Yt.mk (Kd.Zv (Kd.Yl (Kd.Yl (Kd.R_old (Qr1 HO1284.out) hb) (Kd.Zw ho0)) (Kd.Zw ho1)) (fun _ h_ => h_.1))
 replace HO1287 := Yt.mk (Kd.Zv (Kd.Yl (Kd.Yl (Kd.R_old (Qr1 HO1287.out) hb) (Kd.Zw ho0)) (Kd.Zw ho1)) (fun _ h_ => h_.1))
 replace HO1293 := Yt.mk (Kd.Zv (Kd.Yl (Kd.Yl (Kd.R_old (Qr1 HO1293.out) hb) (Kd.Zw ho0)) (Kd.Zw ho1)) (fun _ h_ => h_.1))
 replace HO1296 := Yt.mk (Kd.Zv (Kd.Yl (Kd.Yl (Kd.R_old (Qr1 HO1296.out) hb) (Kd.Zw ho0)) (Kd.Zw ho1)) (fun _ h_ => h_.1))
 replace HO1302 := Yt.mk (Kd.Zv (Kd.Yl (Kd.Yl (Kd.R_old (Qr1 HO1302.out) hb) (Kd.Zw ho0)) (Kd.Zw ho1)) (fun _ h_ => h_.1))
 replace HO1305 := Yt.mk (Kd.Zv (Kd.Yl (Kd.Yl (Kd.R_old (Qr1 HO1305.out) hb) (Kd.Zw ho0)) (Kd.Zw ho1)) (fun _ h_ => h_.1))
 replace BK1266 := Yt.mk (Zq (g := gb1266) (o := .cells #[.bool a0_0, .slice A0_1 l0_1.length c0_1, .slice A0_2 l0_2.length c0_2] 50 (0, 0)) (Qr12 BK1266.out) hb)
 replace BK1267 := Yt.mk (Zq (g := gb1267) (o := .cells #[.bool a1_0, .slice A1_1 l1_1.length c1_1, .slice A1_2 l1_2.length c1_2] 50 (0, 0)) (Qr12 BK1267.out) hb)
 replace BK1289 := Yt.mk (Zq (g := gb1289) (o := .cells #[.bool t1281, .slice Ao41 t1282.length co41, .slice Ao43 t1285.length co43] 50 (0, 0)) (Qr12 BK1289.out) hb)
 replace BK1298 := Yt.mk (Zq (g := gb1298) (o := .cells #[.bool t1290, .slice Ao56 t1291.length co56, .slice Ao57 t1294.length co57] 50 (0, 0)) (Qr12 BK1298.out) hb)
 replace HB := Yt.mk (Zm (Qa0) hb)
 (try clear hb)
 (try clear hb2)
 (try clear hk)
 (try clear hi)
 (try clear ho0)
 (try clear ho1)
 refine hK.out _ _ ⟨(Zl BK1266.out 0).trans rfl, (Zl BK1266.out 1).trans rfl, (Zl BK1266.out 2).trans rfl, (Zl BK1267.out 0).trans rfl, (Zl BK1267.out 1).trans rfl, (Zl BK1267.out 2).trans rfl, (Zl BK1289.out 0).trans rfl, (Zl BK1289.out 1).trans rfl, (Zl BK1289.out 2).trans rfl, (Zl BK1298.out 0).trans rfl, (Zl BK1298.out 1).trans rfl, (Zl BK1298.out 2).trans rfl⟩ (fun hHeld => ?_)
 clear hK K
 refine norm_ (a' := ?_) ?_ ?_
 rotate_left
 ·show Act.put _ (some 45) _ = _
  simp only [Act.put, List.setIfInBounds_toArray, List.set_cons_zero, List.set_cons_succ, Yi, Yj]
  rfl
 refine one_ (i := 10) (N := some 47) #[true, true, true, true, true, true, true, true, true, true, true, false, true, true, false, false, false, false, false, false, false, false, false, false, false, false, false, false, false, false, false, false, false, false, false] rfl rfl (one_of HT_.out Qa8) (by decide) (fun K hK => ?_)
 refine goes_ Try.func51 Qa8 rfl #[.agg #[.bool a1_0, .slice A1_1 l1_1.length c1_1, .slice A1_2 l1_2.length c1_2]] (by rfl) rfl rfl Qa2 ?_
 with_reducible refine (w2_own.calls a1_0 _ _ l1_1 _ _ l1_2 t1315 t1316 t1319 _ ?side1 ?side2 ?side3 ?side4 A15.out).mono ?_
 (case side1 => exact Qe11 (Kd.Ys HR1_1.out HB.out))
 (case side2 => exact HC1_1.out)
 (case side3 => exact Qe11 (Kd.Ys HR1_2.out HB.out))
 (case side4 => exact HC1_2.out)
 rintro e w66 ⟨v1317, v1320, rfl, ho0, ho1, hb⟩
 refine ⟨_, rfl, ?_⟩
 have HO1318 := Yt.mk (Kd.Yb (Kd.Ya (Kd.Ya (Kd.Ya (Kd.Ya (Kd.Ya (Kd.Ya (Kd.Ya (Kd.Ya (Kd.Ya (Kd.Ya ho0 (Kd.R_lt (Qr1 HO1274.out))) (Kd.R_lt (Qr1 HO1280.out))) (Kd.R_lt (Qr1 HO1284.out))) (Kd.R_lt (Qr1 HO1287.out))) (Kd.R_lt (Qr1 HO1293.out))) (Kd.R_lt (Qr1 HO1296.out))) (Kd.R_lt (Qr1 HO1302.out))) (Kd.R_lt (Qr1 HO1305.out))) (Kd.R_lt (Qr1 HO1311.out))) (Kd.R_lt (Qr1 HO1314.out))) (Zk (Qa0)))
 have HO1321 := Yt.mk (Kd.Yb (Kd.Ya (Kd.Ya (Kd.Ya (Kd.Ya (Kd.Ya (Kd.Ya (Kd.Ya (Kd.Ya (Kd.Ya (Kd.Ya ho1 (Kd.R_lt (Qr1 HO1274.out))) (Kd.R_lt (Qr1 HO1280.out))) (Kd.R_lt (Qr1 HO1284.out))) (Kd.R_lt (Qr1 HO1287.out))) (Kd.R_lt (Qr1 HO1293.out))) (Kd.R_lt (Qr1 HO1296.out))) (Kd.R_lt (Qr1 HO1302.out))) (Kd.R_lt (Qr1 HO1305.out))) (Kd.R_lt (Qr1 HO1311.out))) (Kd.R_lt (Qr1 HO1314.out))) (Zk (Qa0)))
 replace HO1274 := Yt.mk (Kd.Zv (Kd.Yl (Kd.Yl (Kd.R_old (Qr1 HO1274.out) hb) (Kd.Zw ho0)) (Kd.Zw ho1)) (fun _ h_ => h_.1))
 replace HO1280 := Yt.mk (Kd.Zv (Kd.Yl (Kd.Yl (Kd.R_old (Qr1 HO1280.out) hb) (Kd.Zw ho0)) (Kd.Zw ho1)) (fun _ h_ => h_.1))
 replace HO1284 := Yt.mk (Kd.Zv (Kd.Yl (Kd.Yl (Kd.R_old (Qr1 HO1284.out) hb) (Kd.Zw ho0)) (Kd.Zw ho1)) (fun _ h_ => h_.1))
 replace HO1287 := Yt.mk (Kd.Zv (Kd.Yl (Kd.Yl (Kd.R_old (Qr1 HO1287.out) hb) (Kd.Zw ho0)) (Kd.Zw ho1)) (fun _ h_ => h_.1))
 replace HO1293 := Yt.mk (Kd.Zv (Kd.Yl (Kd.Yl (Kd.R_old (Qr1 HO1293.out) hb) (Kd.Zw ho0)) (Kd.Zw ho1)) (fun _ h_ => h_.1))
 replace HO1296 := Yt.mk (Kd.Zv (Kd.Yl (Kd.Yl (Kd.R_old (Qr1 HO1296.out) hb) (Kd.Zw ho0)) (Kd.Zw ho1)) (fun _ h_ => h_.1))
 replace HO1302 := Yt.mk (Kd.Zv (Kd.Yl (Kd.Yl (Kd.R_old (Qr1 HO1302.out) hb) (Kd.Zw ho0)) (Kd.Zw ho1)) (fun _ h_ => h_.1))
 replace HO1305 := Yt.mk (Kd.Zv (Kd.Yl (Kd.Yl (Kd.R_old (Qr1 HO1305.out) hb) (Kd.Zw ho0)) (Kd.Zw ho1)) (fun _ h_ => h_.1))
 replace HO1311 := Yt.mk (Kd.Zv (Kd.Yl (Kd.Yl (Kd.R_old (Qr1 HO1311.out) hb) (Kd.Zw ho0)) (Kd.Zw ho1)) (fun _ h_ => h_.1))
 replace HO1314 := Yt.mk (Kd.Zv (Kd.Yl (Kd.Yl (Kd.R_old (Qr1 HO1314.out) hb) (Kd.Zw ho0)) (Kd.Zw ho1)) (fun _ h_ => h_.1))
 replace BK1266 := Yt.mk (Zq (g := gb1266) (o := .cells #[.bool a0_0, .slice A0_1 l0_1.length c0_1, .slice A0_2 l0_2.length c0_2] 50 (0, 0)) (Qr12 BK1266.out) hb)
 replace BK1267 := Yt.mk (Zq (g := gb1267) (o := .cells #[.bool a1_0, .slice A1_1 l1_1.length c1_1, .slice A1_2 l1_2.length c1_2] 50 (0, 0)) (Qr12 BK1267.out) hb)
 replace BK1289 := Yt.mk (Zq (g := gb1289) (o := .cells #[.bool t1281, .slice Ao41 t1282.length co41, .slice Ao43 t1285.length co43] 50 (0, 0)) (Qr12 BK1289.out) hb)
 replace BK1298 := Yt.mk (Zq (g := gb1298) (o := .cells #[.bool t1290, .slice Ao56 t1291.length co56, .slice Ao57 t1294.length co57] 50 (0, 0)) (Qr12 BK1298.out) hb)
 replace HB := Yt.mk (Zm (Qa0) hb)
 (try clear hb)
 (try clear hb2)
 (try clear hk)
 (try clear hi)
 (try clear ho0)
 (try clear ho1)
 obtain ⟨Ao67, co67, eo67⟩ := Kd.Zx HO1311.out
 (first | subst eo67 | (injection eo67 with f1_ f2_ f3_; have f4_ := f1_.symm; have f5_ := f3_.symm; clear f1_ f2_ f3_; subst f4_; subst f5_))
 obtain ⟨Ao68, co68, eo68⟩ := Kd.Zx HO1314.out
 (first | subst eo68 | (injection eo68 with f1_ f2_ f3_; have f4_ := f1_.symm; have f5_ := f3_.symm; clear f1_ f2_ f3_; subst f4_; subst f5_))
 obtain ⟨Ao69, co69, eo69⟩ := Kd.Zx HO1318.out
 (first | subst eo69 | (injection eo69 with f1_ f2_ f3_; have f4_ := f1_.symm; have f5_ := f3_.symm; clear f1_ f2_ f3_; subst f4_; subst f5_))
 obtain ⟨Ao70, co70, eo70⟩ := Kd.Zx HO1321.out
 (first | subst eo70 | (injection eo70 with f1_ f2_ f3_; have f4_ := f1_.symm; have f5_ := f3_.symm; clear f1_ f2_ f3_; subst f4_; subst f5_))
 refine hK.out _ _ ⟨(Zl BK1266.out 0).trans rfl, (Zl BK1266.out 1).trans rfl, (Zl BK1266.out 2).trans rfl, (Zl BK1267.out 0).trans rfl, (Zl BK1267.out 1).trans rfl, (Zl BK1267.out 2).trans rfl, (Zl BK1289.out 0).trans rfl, (Zl BK1289.out 1).trans rfl, (Zl BK1289.out 2).trans rfl, (Zl BK1298.out 0).trans rfl, (Zl BK1298.out 1).trans rfl, (Zl BK1298.out 2).trans rfl⟩ (fun hHeld => ?_)
 clear hK K
 refine norm_ (a' := ?_) ?_ ?_
 rotate_left
 ·show Act.put _ (some 47) _ = _
  simp only [Act.put, List.setIfInBounds_toArray, List.set_cons_zero, List.set_cons_succ, Yi, Yj]
  rfl
 refine one_ (i := 11) (N := some 48) #[true, true, true, true, true, true, true, true, true, true, true, true, true, true, false, false, false, false, false, false, false, false, false, false, false, false, false, false, false, false, false, false, false, false, false] rfl rfl (one_of HT_.out Qa8) (by decide) (fun K hK => ?_)
 refine goes_ Try.func53 Qa8 rfl #[.agg #[.bool t1308, .slice Ao67 t1309.length co67, .slice Ao68 t1312.length co68], .agg #[.bool t1315, .slice Ao69 t1316.length co69, .slice Ao70 t1319.length co70]] (by rfl) rfl rfl Qa2 ?_
 with_reducible refine (ratio_Same.calls k t1308 _ _ t1309 _ _ t1312 t1315 _ _ t1316 _ _ t1319 t1322 _ ?side1 ?side2 ?side3 ?side4 ?side5 ?side6 ?side7 ?side8 A16.out).mono ?_
 (case side1 => exact Qe11 (Kd.Zs HO1311.out).2.2)
 (case side2 => exact (Kd.Zs HO1311.out).2.1)
 (case side3 => exact Qe11 (Kd.Zs HO1314.out).2.2)
 (case side4 => exact (Kd.Zs HO1314.out).2.1)
 (case side5 => exact Qe11 (Kd.Zs HO1318.out).2.2)
 (case side6 => exact (Kd.Zs HO1318.out).2.1)
 (case side7 => exact Qe11 (Kd.Zs HO1321.out).2.2)
 (case side8 => exact (Kd.Zs HO1321.out).2.1)
 rintro e w71 ⟨rfl, hb⟩
 refine ⟨_, rfl, ?_⟩
 replace HO1274 := Yt.mk (Kd.Yd (Qr1 HO1274.out) hb)
 replace HO1280 := Yt.mk (Kd.Yd (Qr1 HO1280.out) hb)
 replace HO1284 := Yt.mk (Kd.Yd (Qr1 HO1284.out) hb)
 replace HO1287 := Yt.mk (Kd.Yd (Qr1 HO1287.out) hb)
 replace HO1293 := Yt.mk (Kd.Yd (Qr1 HO1293.out) hb)
 replace HO1296 := Yt.mk (Kd.Yd (Qr1 HO1296.out) hb)
 replace HO1302 := Yt.mk (Kd.Yd (Qr1 HO1302.out) hb)
 replace HO1305 := Yt.mk (Kd.Yd (Qr1 HO1305.out) hb)
 replace HO1311 := Yt.mk (Kd.Yd (Qr1 HO1311.out) hb)
 replace HO1314 := Yt.mk (Kd.Yd (Qr1 HO1314.out) hb)
 replace HO1318 := Yt.mk (Kd.Yd (Qr1 HO1318.out) hb)
 replace HO1321 := Yt.mk (Kd.Yd (Qr1 HO1321.out) hb)
 replace BK1266 := Yt.mk (Zq (g := gb1266) (o := .cells #[.bool a0_0, .slice A0_1 l0_1.length c0_1, .slice A0_2 l0_2.length c0_2] 50 (0, 0)) (Qr12 BK1266.out) hb)
 replace BK1267 := Yt.mk (Zq (g := gb1267) (o := .cells #[.bool a1_0, .slice A1_1 l1_1.length c1_1, .slice A1_2 l1_2.length c1_2] 50 (0, 0)) (Qr12 BK1267.out) hb)
 replace BK1289 := Yt.mk (Zq (g := gb1289) (o := .cells #[.bool t1281, .slice Ao41 t1282.length co41, .slice Ao43 t1285.length co43] 50 (0, 0)) (Qr12 BK1289.out) hb)
 replace BK1298 := Yt.mk (Zq (g := gb1298) (o := .cells #[.bool t1290, .slice Ao56 t1291.length co56, .slice Ao57 t1294.length co57] 50 (0, 0)) (Qr12 BK1298.out) hb)
 replace HB := Yt.mk (Zm (Qa0) hb)
 (try clear hb)
 (try clear hb2)
 (try clear hk)
 (try clear hi)
 refine hK.out _ _ ⟨(Zl BK1266.out 0).trans rfl, (Zl BK1266.out 1).trans rfl, (Zl BK1266.out 2).trans rfl, (Zl BK1267.out 0).trans rfl, (Zl BK1267.out 1).trans rfl, (Zl BK1267.out 2).trans rfl, (Zl BK1289.out 0).trans rfl, (Zl BK1289.out 1).trans rfl, (Zl BK1289.out 2).trans rfl, (Zl BK1298.out 0).trans rfl, (Zl BK1298.out 1).trans rfl, (Zl BK1298.out 2).trans rfl⟩ (fun hHeld => ?_)
 clear hK K
 refine norm_ (a' := ?_) ?_ ?_
 rotate_left
 ·show Act.put _ (some 48) _ = _
  simp only [Act.put, List.setIfInBounds_toArray, List.set_cons_zero, List.set_cons_succ, Yi, Yj]
  rfl
 refine one_ (i := 14) (N := some 51) #[true, true, true, true, true, true, true, true, true, true, true, true, true, true, true, false, false, false, false, false, false, false, false, false, false, false, false, false, false, false, false, false, false, false, false] rfl rfl (one_of HT_.out Qa8) (by decide) (fun K hK => ?_)
 refine goes_ Try.func54 Qa8 rfl #[.agg #[.bool a0_0, .slice A0_1 l0_1.length c0_1, .slice A0_2 l0_2.length c0_2], .agg #[.bool a1_0, .slice A1_1 l1_1.length c1_1, .slice A1_2 l1_2.length c1_2]] (by rfl) rfl rfl Qa2 ?_
 with_reducible refine (r2_Same.calls k a0_0 _ _ l0_1 _ _ l0_2 a1_0 _ _ l1_1 _ _ l1_2 t1323 _ ?side1 ?side2 ?side3 ?side4 ?side5 ?side6 ?side7 ?side8 A17.out).mono ?_
 (case side1 => exact Qe11 (Kd.Ys HR0_1.out HB.out))
 (case side2 => exact HC0_1.out)
 (case side3 => exact Qe11 (Kd.Ys HR0_2.out HB.out))
 (case side4 => exact HC0_2.out)
 (case side5 => exact Qe11 (Kd.Ys HR1_1.out HB.out))
 (case side6 => exact HC1_1.out)
 (case side7 => exact Qe11 (Kd.Ys HR1_2.out HB.out))
 (case side8 => exact HC1_2.out)
 rintro e w72 ⟨rfl, hb⟩
 refine ⟨_, rfl, ?_⟩
 replace HO1274 := Yt.mk (Kd.Yd (Qr1 HO1274.out) hb)
 replace HO1280 := Yt.mk (Kd.Yd (Qr1 HO1280.out) hb)
 replace HO1284 := Yt.mk (Kd.Yd (Qr1 HO1284.out) hb)
 replace HO1287 := Yt.mk (Kd.Yd (Qr1 HO1287.out) hb)
 replace HO1293 := Yt.mk (Kd.Yd (Qr1 HO1293.out) hb)
 replace HO1296 := Yt.mk (Kd.Yd (Qr1 HO1296.out) hb)
 replace HO1302 := Yt.mk (Kd.Yd (Qr1 HO1302.out) hb)
 replace HO1305 := Yt.mk (Kd.Yd (Qr1 HO1305.out) hb)
 replace HO1311 := Yt.mk (Kd.Yd (Qr1 HO1311.out) hb)
 replace HO1314 := Yt.mk (Kd.Yd (Qr1 HO1314.out) hb)
 replace HO1318 := Yt.mk (Kd.Yd (Qr1 HO1318.out) hb)
 replace HO1321 := Yt.mk (Kd.Yd (Qr1 HO1321.out) hb)
 replace BK1266 := Yt.mk (Zq (g := gb1266) (o := .cells #[.bool a0_0, .slice A0_1 l0_1.length c0_1, .slice A0_2 l0_2.length c0_2] 50 (0, 0)) (Qr12 BK1266.out) hb)
 replace BK1267 := Yt.mk (Zq (g := gb1267) (o := .cells #[.bool a1_0, .slice A1_1 l1_1.length c1_1, .slice A1_2 l1_2.length c1_2] 50 (0, 0)) (Qr12 BK1267.out) hb)
 replace BK1289 := Yt.mk (Zq (g := gb1289) (o := .cells #[.bool t1281, .slice Ao41 t1282.length co41, .slice Ao43 t1285.length co43] 50 (0, 0)) (Qr12 BK1289.out) hb)
 replace BK1298 := Yt.mk (Zq (g := gb1298) (o := .cells #[.bool t1290, .slice Ao56 t1291.length co56, .slice Ao57 t1294.length co57] 50 (0, 0)) (Qr12 BK1298.out) hb)
 replace HB := Yt.mk (Zm (Qa0) hb)
 (try clear hb)
 (try clear hb2)
 (try clear hk)
 (try clear hi)
 refine hK.out _ _ ⟨(Zl BK1266.out 0).trans rfl, (Zl BK1266.out 1).trans rfl, (Zl BK1266.out 2).trans rfl, (Zl BK1267.out 0).trans rfl, (Zl BK1267.out 1).trans rfl, (Zl BK1267.out 2).trans rfl, (Zl BK1289.out 0).trans rfl, (Zl BK1289.out 1).trans rfl, (Zl BK1289.out 2).trans rfl, (Zl BK1298.out 0).trans rfl, (Zl BK1298.out 1).trans rfl, (Zl BK1298.out 2).trans rfl⟩ (fun hHeld => ?_)
 clear hK K
 refine norm_ (a' := ?_) ?_ ?_
 rotate_left
 ·show Act.put _ (some 51) _ = _
  simp only [Act.put, List.setIfInBounds_toArray, List.set_cons_zero, List.set_cons_succ, Yi, Yj]
  rfl
 refine pure_ (i := 15) (N := some 52) (v := ?_) (a' := ?_) #[true, true, true, true, true, true, true, true, true, true, true, true, true, true, true, true, false, false, false, false, false, false, false, false, false, false, false, false, false, false, false, false, false, false, false] rfl rfl (any_of HT_.out Qa8) (fun _ _ _ h => h) (Or.inl ⟨by rfl, ?_⟩) ?_ ?_
 rotate_left
 ·intro w'
  go_simp
  with_reducible rfl
 rotate_left
 ·simp only [Act.put, List.setIfInBounds_toArray, List.set_cons_zero, List.set_cons_succ, Yi, Yj]
  rfl
 refine pure_ (i := 16) (N := some 53) (v := ?_) (a' := ?_) #[true, true, true, true, true, true, true, true, true, true, true, true, true, true, true, true, true, false, false, false, false, false, false, false, false, false, false, false, false, false, false, false, false, false, false] rfl rfl (any_of HT_.out Qa8) (fun _ _ _ h => h) (Or.inl ⟨by rfl, ?_⟩) ?_ ?_
 rotate_left
 ·intro w'
  go_simp
  with_reducible rfl
 rotate_left
 ·simp only [Act.put, List.setIfInBounds_toArray, List.set_cons_zero, List.set_cons_succ, Yi, Yj]
  rfl
 refine pure_ (i := 17) (N := some 54) (v := ?_) (a' := ?_) #[true, true, true, true, true, true, true, true, true, true, true, true, true, true, true, true, true, true, false, false, false, false, false, false, false, false, false, false, false, false, false, false, false, false, false] rfl rfl (any_of HT_.out Qa8) (fun _ _ _ h => h) (Or.inl ⟨by rfl, ?_⟩) ?_ ?_
 rotate_left
 ·intro w'
  go_simp
  with_reducible rfl
 rotate_left
 ·simp only [Act.put, List.setIfInBounds_toArray, List.set_cons_zero, List.set_cons_succ, Yi, Yj]
  rfl
 refine pure_ (i := 18) (N := some 55) (v := ?_) (a' := ?_) #[true, true, true, true, true, true, true, true, true, true, true, true, true, true, true, true, true, true, true, false, false, false, false, false, false, false, false, false, false, false, false, false, false, false, false] rfl rfl (any_of HT_.out Qa8) (fun _ _ _ h => h) (Or.inl ⟨by rfl, ?_⟩) ?_ ?_
 rotate_left
 ·intro w'
  go_simp
  with_reducible rfl
 rotate_left
 ·simp only [Act.put, List.setIfInBounds_toArray, List.set_cons_zero, List.set_cons_succ, Yi, Yj]
  rfl
 refine pure_ (i := 20) (N := some 57) (v := ?_) (a' := ?_) #[true, true, true, true, true, true, true, true, true, true, true, true, true, true, true, true, true, true, true, false, true, false, false, false, false, false, false, false, false, false, false, false, false, false, false] rfl rfl (any_of HT_.out Qa8) (fun _ _ _ h => h) (Or.inl ⟨by rfl, ?_⟩) ?_ ?_
 rotate_left
 ·intro w'
  go_simp
  with_reducible rfl
 rotate_left
 ·simp only [Act.put, List.setIfInBounds_toArray, List.set_cons_zero, List.set_cons_succ, Yi, Yj]
  rfl
 refine one_ (i := 19) (N := some 56) #[true, true, true, true, true, true, true, true, true, true, true, true, true, true, true, true, true, true, true, true, true, false, false, false, false, false, false, false, false, false, false, false, false, false, false] rfl rfl (one_of HT_.out Qa8) (by decide) (fun K hK => ?_)
 refine goes_ Try.func55 Qa8 rfl #[.int .i64 a2] (by rfl) rfl rfl Qa2 ?_
 with_reducible refine (ratio_Of.calls k a2 t1324 t1325 t1328 _ A19.out).mono ?_
 rintro e w73 ⟨v1326, v1329, rfl, ho0, ho1, hb⟩
 refine ⟨_, rfl, ?_⟩
 have HO1327 := Yt.mk (Kd.Yb (Kd.Ya (Kd.Ya (Kd.Ya (Kd.Ya (Kd.Ya (Kd.Ya (Kd.Ya (Kd.Ya (Kd.Ya (Kd.Ya (Kd.Ya (Kd.Ya ho0 (Kd.R_lt (Qr1 HO1274.out))) (Kd.R_lt (Qr1 HO1280.out))) (Kd.R_lt (Qr1 HO1284.out))) (Kd.R_lt (Qr1 HO1287.out))) (Kd.R_lt (Qr1 HO1293.out))) (Kd.R_lt (Qr1 HO1296.out))) (Kd.R_lt (Qr1 HO1302.out))) (Kd.R_lt (Qr1 HO1305.out))) (Kd.R_lt (Qr1 HO1311.out))) (Kd.R_lt (Qr1 HO1314.out))) (Kd.R_lt (Qr1 HO1318.out))) (Kd.R_lt (Qr1 HO1321.out))) (Zk (Qa0)))
 have HO1330 := Yt.mk (Kd.Yb (Kd.Ya (Kd.Ya (Kd.Ya (Kd.Ya (Kd.Ya (Kd.Ya (Kd.Ya (Kd.Ya (Kd.Ya (Kd.Ya (Kd.Ya (Kd.Ya ho1 (Kd.R_lt (Qr1 HO1274.out))) (Kd.R_lt (Qr1 HO1280.out))) (Kd.R_lt (Qr1 HO1284.out))) (Kd.R_lt (Qr1 HO1287.out))) (Kd.R_lt (Qr1 HO1293.out))) (Kd.R_lt (Qr1 HO1296.out))) (Kd.R_lt (Qr1 HO1302.out))) (Kd.R_lt (Qr1 HO1305.out))) (Kd.R_lt (Qr1 HO1311.out))) (Kd.R_lt (Qr1 HO1314.out))) (Kd.R_lt (Qr1 HO1318.out))) (Kd.R_lt (Qr1 HO1321.out))) (Zk (Qa0)))
 replace HO1274 := Yt.mk (Kd.Zv (Kd.Yl (Kd.Yl (Kd.R_old (Qr1 HO1274.out) hb) (Kd.Zw ho0)) (Kd.Zw ho1)) (fun _ h_ => h_.1))
 replace HO1280 := Yt.mk (Kd.Zv (Kd.Yl (Kd.Yl (Kd.R_old (Qr1 HO1280.out) hb) (Kd.Zw ho0)) (Kd.Zw ho1)) (fun _ h_ => h_.1))
 replace HO1284 := Yt.mk (Kd.Zv (Kd.Yl (Kd.Yl (Kd.R_old (Qr1 HO1284.out) hb) (Kd.Zw ho0)) (Kd.Zw ho1)) (fun _ h_ => h_.1))
 replace HO1287 := Yt.mk (Kd.Zv (Kd.Yl (Kd.Yl (Kd.R_old (Qr1 HO1287.out) hb) (Kd.Zw ho0)) (Kd.Zw ho1)) (fun _ h_ => h_.1))
 replace HO1293 := Yt.mk (Kd.Zv (Kd.Yl (Kd.Yl (Kd.R_old (Qr1 HO1293.out) hb) (Kd.Zw ho0)) (Kd.Zw ho1)) (fun _ h_ => h_.1))
 replace HO1296 := Yt.mk (Kd.Zv (Kd.Yl (Kd.Yl (Kd.R_old (Qr1 HO1296.out) hb) (Kd.Zw ho0)) (Kd.Zw ho1)) (fun _ h_ => h_.1))
 replace HO1302 := Yt.mk (Kd.Zv (Kd.Yl (Kd.Yl (Kd.R_old (Qr1 HO1302.out) hb) (Kd.Zw ho0)) (Kd.Zw ho1)) (fun _ h_ => h_.1))
 replace HO1305 := Yt.mk (Kd.Zv (Kd.Yl (Kd.Yl (Kd.R_old (Qr1 HO1305.out) hb) (Kd.Zw ho0)) (Kd.Zw ho1)) (fun _ h_ => h_.1))
 replace HO1311 := Yt.mk (Kd.Zv (Kd.Yl (Kd.Yl (Kd.R_old (Qr1 HO1311.out) hb) (Kd.Zw ho0)) (Kd.Zw ho1)) (fun _ h_ => h_.1))
 replace HO1314 := Yt.mk (Kd.Zv (Kd.Yl (Kd.Yl (Kd.R_old (Qr1 HO1314.out) hb) (Kd.Zw ho0)) (Kd.Zw ho1)) (fun _ h_ => h_.1))
 replace HO1318 := Yt.mk (Kd.Zv (Kd.Yl (Kd.Yl (Kd.R_old (Qr1 HO1318.out) hb) (Kd.Zw ho0)) (Kd.Zw ho1)) (fun _ h_ => h_.1))
 replace HO1321 := Yt.mk (Kd.Zv (Kd.Yl (Kd.Yl (Kd.R_old (Qr1 HO1321.out) hb) (Kd.Zw ho0)) (Kd.Zw ho1)) (fun _ h_ => h_.1))
 replace BK1266 := Yt.mk (Zq (g := gb1266) (o := .cells #[.bool a0_0, .slice A0_1 l0_1.length c0_1, .slice A0_2 l0_2.length c0_2] 50 (0, 0)) (Qr12 BK1266.out) hb)
 replace BK1267 := Yt.mk (Zq (g := gb1267) (o := .cells #[.bool a1_0, .slice A1_1 l1_1.length c1_1, .slice A1_2 l1_2.length c1_2] 50 (0, 0)) (Qr12 BK1267.out) hb)
 replace BK1289 := Yt.mk (Zq (g := gb1289) (o := .cells #[.bool t1281, .slice Ao41 t1282.length co41, .slice Ao43 t1285.length co43] 50 (0, 0)) (Qr12 BK1289.out) hb)
 replace BK1298 := Yt.mk (Zq (g := gb1298) (o := .cells #[.bool t1290, .slice Ao56 t1291.length co56, .slice Ao57 t1294.length co57] 50 (0, 0)) (Qr12 BK1298.out) hb)
 replace HB := Yt.mk (Zm (Qa0) hb)
 (try clear hb)
 (try clear hb2)
 (try clear hk)
 (try clear hi)
 (try clear ho0)
 (try clear ho1)
 refine hK.out _ _ ⟨(Zl BK1266.out 0).trans rfl, (Zl BK1266.out 1).trans rfl, (Zl BK1266.out 2).trans rfl, (Zl BK1267.out 0).trans rfl, (Zl BK1267.out 1).trans rfl, (Zl BK1267.out 2).trans rfl, (Zl BK1289.out 0).trans rfl, (Zl BK1289.out 1).trans rfl, (Zl BK1289.out 2).trans rfl, (Zl BK1298.out 0).trans rfl, (Zl BK1298.out 1).trans rfl, (Zl BK1298.out 2).trans rfl⟩ (fun hHeld => ?_)
 clear hK K
 refine norm_ (a' := ?_) ?_ ?_
 rotate_left
 ·show Act.put _ (some 56) _ = _
  simp only [Act.put, List.setIfInBounds_toArray, List.set_cons_zero, List.set_cons_succ, Yi, Yj]
  rfl
 refine one_ (i := 21) (N := some 58) #[true, true, true, true, true, true, true, true, true, true, true, true, true, true, true, true, true, true, true, true, true, true, false, false, false, false, false, false, false, false, false, false, false, false, false] rfl rfl (one_of HT_.out Qa8) (by decide) (fun K hK => ?_)
 refine goes_ Try.func56 Qa8 rfl #[.int .i64 a2] (by rfl) rfl rfl Qa2 ?_
 with_reducible refine (r2_Of.calls k a2 t1331 t1332 t1335 _ A20.out).mono ?_
 rintro e w74 ⟨v1333, v1336, rfl, ho0, ho1, hb⟩
 refine ⟨_, rfl, ?_⟩
 have HO1334 := Yt.mk (Kd.Yb (Kd.Ya (Kd.Ya (Kd.Ya (Kd.Ya (Kd.Ya (Kd.Ya (Kd.Ya (Kd.Ya (Kd.Ya (Kd.Ya (Kd.Ya (Kd.Ya (Kd.Ya (Kd.Ya ho0 (Kd.R_lt (Qr1 HO1274.out))) (Kd.R_lt (Qr1 HO1280.out))) (Kd.R_lt (Qr1 HO1284.out))) (Kd.R_lt (Qr1 HO1287.out))) (Kd.R_lt (Qr1 HO1293.out))) (Kd.R_lt (Qr1 HO1296.out))) (Kd.R_lt (Qr1 HO1302.out))) (Kd.R_lt (Qr1 HO1305.out))) (Kd.R_lt (Qr1 HO1311.out))) (Kd.R_lt (Qr1 HO1314.out))) (Kd.R_lt (Qr1 HO1318.out))) (Kd.R_lt (Qr1 HO1321.out))) (Kd.R_lt (Qr1 HO1327.out))) (Kd.R_lt (Qr1 HO1330.out))) (Zk (Qa0)))
 have HO1337 := Yt.mk (Kd.Yb (Kd.Ya (Kd.Ya (Kd.Ya (Kd.Ya (Kd.Ya (Kd.Ya (Kd.Ya (Kd.Ya (Kd.Ya (Kd.Ya (Kd.Ya (Kd.Ya (Kd.Ya (Kd.Ya ho1 (Kd.R_lt (Qr1 HO1274.out))) (Kd.R_lt (Qr1 HO1280.out))) (Kd.R_lt (Qr1 HO1284.out))) (Kd.R_lt (Qr1 HO1287.out))) (Kd.R_lt (Qr1 HO1293.out))) (Kd.R_lt (Qr1 HO1296.out))) (Kd.R_lt (Qr1 HO1302.out))) (Kd.R_lt (Qr1 HO1305.out))) (Kd.R_lt (Qr1 HO1311.out))) (Kd.R_lt (Qr1 HO1314.out))) (Kd.R_lt (Qr1 HO1318.out))) (Kd.R_lt (Qr1 HO1321.out))) (Kd.R_lt (Qr1 HO1327.out))) (Kd.R_lt (Qr1 HO1330.out))) (Zk (Qa0)))
 replace HO1274 := Yt.mk (Kd.Zv (Kd.Yl (Kd.Yl (Kd.R_old (Qr1 HO1274.out) hb) (Kd.Zw ho0)) (Kd.Zw ho1)) (fun _ h_ => h_.1))
 replace HO1280 := Yt.mk (Kd.Zv (Kd.Yl (Kd.Yl (Kd.R_old (Qr1 HO1280.out) hb) (Kd.Zw ho0)) (Kd.Zw ho1)) (fun _ h_ => h_.1))
 replace HO1284 := Yt.mk (Kd.Zv (Kd.Yl (Kd.Yl (Kd.R_old (Qr1 HO1284.out) hb) (Kd.Zw ho0)) (Kd.Zw ho1)) (fun _ h_ => h_.1))
 replace HO1287 := Yt.mk (Kd.Zv (Kd.Yl (Kd.Yl (Kd.R_old (Qr1 HO1287.out) hb) (Kd.Zw ho0)) (Kd.Zw ho1)) (fun _ h_ => h_.1))
 replace HO1293 := Yt.mk (Kd.Zv (Kd.Yl (Kd.Yl (Kd.R_old (Qr1 HO1293.out) hb) (Kd.Zw ho0)) (Kd.Zw ho1)) (fun _ h_ => h_.1))
 replace HO1296 := Yt.mk (Kd.Zv (Kd.Yl (Kd.Yl (Kd.R_old (Qr1 HO1296.out) hb) (Kd.Zw ho0)) (Kd.Zw ho1)) (fun _ h_ => h_.1))
 replace HO1302 := Yt.mk (Kd.Zv (Kd.Yl (Kd.Yl (Kd.R_old (Qr1 HO1302.out) hb) (Kd.Zw ho0)) (Kd.Zw ho1)) (fun _ h_ => h_.1))
 replace HO1305 := Yt.mk (Kd.Zv (Kd.Yl (Kd.Yl (Kd.R_old (Qr1 HO1305.out) hb) (Kd.Zw ho0)) (Kd.Zw ho1)) (fun _ h_ => h_.1))
 replace HO1311 := Yt.mk (Kd.Zv (Kd.Yl (Kd.Yl (Kd.R_old (Qr1 HO1311.out) hb) (Kd.Zw ho0)) (Kd.Zw ho1)) (fun _ h_ => h_.1))
 replace HO1314 := Yt.mk (Kd.Zv (Kd.Yl (Kd.Yl (Kd.R_old (Qr1 HO1314.out) hb) (Kd.Zw ho0)) (Kd.Zw ho1)) (fun _ h_ => h_.1))
 replace HO1318 := Yt.mk (Kd.Zv (Kd.Yl (Kd.Yl (Kd.R_old (Qr1 HO1318.out) hb) (Kd.Zw ho0)) (Kd.Zw ho1)) (fun _ h_ => h_.1))
 replace HO1321 := Yt.mk (Kd.Zv (Kd.Yl (Kd.Yl (Kd.R_old (Qr1 HO1321.out) hb) (Kd.Zw ho0)) (Kd.Zw ho1)) (fun _ h_ => h_.1))
 replace HO1327 := Yt.mk (Kd.Zv (Kd.Yl (Kd.Yl (Kd.R_old (Qr1 HO1327.out) hb) (Kd.Zw ho0)) (Kd.Zw ho1)) (fun _ h_ => h_.1))
 replace HO1330 := Yt.mk (Kd.Zv (Kd.Yl (Kd.Yl (Kd.R_old (Qr1 HO1330.out) hb) (Kd.Zw ho0)) (Kd.Zw ho1)) (fun _ h_ => h_.1))
 replace BK1266 := Yt.mk (Zq (g := gb1266) (o := .cells #[.bool a0_0, .slice A0_1 l0_1.length c0_1, .slice A0_2 l0_2.length c0_2] 50 (0, 0)) (Qr12 BK1266.out) hb)
 replace BK1267 := Yt.mk (Zq (g := gb1267) (o := .cells #[.bool a1_0, .slice A1_1 l1_1.length c1_1, .slice A1_2 l1_2.length c1_2] 50 (0, 0)) (Qr12 BK1267.out) hb)
 replace BK1289 := Yt.mk (Zq (g := gb1289) (o := .cells #[.bool t1281, .slice Ao41 t1282.length co41, .slice Ao43 t1285.length co43] 50 (0, 0)) (Qr12 BK1289.out) hb)
 replace BK1298 := Yt.mk (Zq (g := gb1298) (o := .cells #[.bool t1290, .slice Ao56 t1291.length co56, .slice Ao57 t1294.length co57] 50 (0, 0)) (Qr12 BK1298.out) hb)
 replace HB := Yt.mk (Zm (Qa0) hb)
 (try clear hb)
 (try clear hb2)
 (try clear hk)
 (try clear hi)
 (try clear ho0)
 (try clear ho1)
 obtain ⟨Ao75, co75, eo75⟩ := Kd.Zx HO1327.out
 (first | subst eo75 | (injection eo75 with f1_ f2_ f3_; have f4_ := f1_.symm; have f5_ := f3_.symm; clear f1_ f2_ f3_; subst f4_; subst f5_))
 obtain ⟨Ao76, co76, eo76⟩ := Kd.Zx HO1330.out
 (first | subst eo76 | (injection eo76 with f1_ f2_ f3_; have f4_ := f1_.symm; have f5_ := f3_.symm; clear f1_ f2_ f3_; subst f4_; subst f5_))
 obtain ⟨Ao77, co77, eo77⟩ := Kd.Zx HO1334.out
 (first | subst eo77 | (injection eo77 with f1_ f2_ f3_; have f4_ := f1_.symm; have f5_ := f3_.symm; clear f1_ f2_ f3_; subst f4_; subst f5_))
 obtain ⟨Ao78, co78, eo78⟩ := Kd.Zx HO1337.out
 (first | subst eo78 | (injection eo78 with f1_ f2_ f3_; have f4_ := f1_.symm; have f5_ := f3_.symm; clear f1_ f2_ f3_; subst f4_; subst f5_))
 refine hK.out _ _ ⟨(Zl BK1266.out 0).trans rfl, (Zl BK1266.out 1).trans rfl, (Zl BK1266.out 2).trans rfl, (Zl BK1267.out 0).trans rfl, (Zl BK1267.out 1).trans rfl, (Zl BK1267.out 2).trans rfl, (Zl BK1289.out 0).trans rfl, (Zl BK1289.out 1).trans rfl, (Zl BK1289.out 2).trans rfl, (Zl BK1298.out 0).trans rfl, (Zl BK1298.out 1).trans rfl, (Zl BK1298.out 2).trans rfl⟩ (fun hHeld => ?_)
 clear hK K
 refine norm_ (a' := ?_) ?_ ?_
 rotate_left
 ·show Act.put _ (some 58) _ = _
  simp only [Act.put, List.setIfInBounds_toArray, List.set_cons_zero, List.set_cons_succ, Yi, Yj]
  rfl
 refine one_ (i := 22) (N := some 59) #[true, true, true, true, true, true, true, true, true, true, true, true, true, true, true, true, true, true, true, true, true, true, true, false, false, false, false, false, false, false, false, false, false, false, false] rfl rfl (one_of HT_.out Qa8) (by decide) (fun K hK => ?_)
 refine goes_ Try.func54 Qa8 rfl #[.agg #[.bool t1324, .slice Ao75 t1325.length co75, .slice Ao76 t1328.length co76], .agg #[.bool t1331, .slice Ao77 t1332.length co77, .slice Ao78 t1335.length co78]] (by rfl) rfl rfl Qa2 ?_
 with_reducible refine (r2_Same.calls k t1324 _ _ t1325 _ _ t1328 t1331 _ _ t1332 _ _ t1335 true _ ?side1 ?side2 ?side3 ?side4 ?side5 ?side6 ?side7 ?side8 A21.out).mono ?_
 (case side1 => exact Qe11 (Kd.Zs HO1327.out).2.2)
 (case side2 => exact (Kd.Zs HO1327.out).2.1)
 (case side3 => exact Qe11 (Kd.Zs HO1330.out).2.2)
 (case side4 => exact (Kd.Zs HO1330.out).2.1)
 (case side5 => exact Qe11 (Kd.Zs HO1334.out).2.2)
 (case side6 => exact (Kd.Zs HO1334.out).2.1)
 (case side7 => exact Qe11 (Kd.Zs HO1337.out).2.2)
 (case side8 => exact (Kd.Zs HO1337.out).2.1)
 rintro e w79 ⟨rfl, hb⟩
 refine ⟨_, rfl, ?_⟩
 replace HO1274 := Yt.mk (Kd.Yd (Qr1 HO1274.out) hb)
 replace HO1280 := Yt.mk (Kd.Yd (Qr1 HO1280.out) hb)
 replace HO1284 := Yt.mk (Kd.Yd (Qr1 HO1284.out) hb)
 replace HO1287 := Yt.mk (Kd.Yd (Qr1 HO1287.out) hb)
 replace HO1293 := Yt.mk (Kd.Yd (Qr1 HO1293.out) hb)
 replace HO1296 := Yt.mk (Kd.Yd (Qr1 HO1296.out) hb)
 replace HO1302 := Yt.mk (Kd.Yd (Qr1 HO1302.out) hb)
 replace HO1305 := Yt.mk (Kd.Yd (Qr1 HO1305.out) hb)
 replace HO1311 := Yt.mk (Kd.Yd (Qr1 HO1311.out) hb)
 replace HO1314 := Yt.mk (Kd.Yd (Qr1 HO1314.out) hb)
 replace HO1318 := Yt.mk (Kd.Yd (Qr1 HO1318.out) hb)
 replace HO1321 := Yt.mk (Kd.Yd (Qr1 HO1321.out) hb)
 replace HO1327 := Yt.mk (Kd.Yd (Qr1 HO1327.out) hb)
 replace HO1330 := Yt.mk (Kd.Yd (Qr1 HO1330.out) hb)
 replace HO1334 := Yt.mk (Kd.Yd (Qr1 HO1334.out) hb)
 replace HO1337 := Yt.mk (Kd.Yd (Qr1 HO1337.out) hb)
 replace BK1266 := Yt.mk (Zq (g := gb1266) (o := .cells #[.bool a0_0, .slice A0_1 l0_1.length c0_1, .slice A0_2 l0_2.length c0_2] 50 (0, 0)) (Qr12 BK1266.out) hb)
 replace BK1267 := Yt.mk (Zq (g := gb1267) (o := .cells #[.bool a1_0, .slice A1_1 l1_1.length c1_1, .slice A1_2 l1_2.length c1_2] 50 (0, 0)) (Qr12 BK1267.out) hb)
 replace BK1289 := Yt.mk (Zq (g := gb1289) (o := .cells #[.bool t1281, .slice Ao41 t1282.length co41, .slice Ao43 t1285.length co43] 50 (0, 0)) (Qr12 BK1289.out) hb)
 replace BK1298 := Yt.mk (Zq (g := gb1298) (o := .cells #[.bool t1290, .slice Ao56 t1291.length co56, .slice Ao57 t1294.length co57] 50 (0, 0)) (Qr12 BK1298.out) hb)
 replace HB := Yt.mk (Zm (Qa0) hb)
 (try clear hb)
 (try clear hb2)
 (try clear hk)
 (try clear hi)
 refine hK.out _ _ ⟨(Zl BK1266.out 0).trans rfl, (Zl BK1266.out 1).trans rfl, (Zl BK1266.out 2).trans rfl, (Zl BK1267.out 0).trans rfl, (Zl BK1267.out 1).trans rfl, (Zl BK1267.out 2).trans rfl, (Zl BK1289.out 0).trans rfl, (Zl BK1289.out 1).trans rfl, (Zl BK1289.out 2).trans rfl, (Zl BK1298.out 0).trans rfl, (Zl BK1298.out 1).trans rfl, (Zl BK1298.out 2).trans rfl⟩ (fun hHeld => ?_)
 clear hK K
 refine norm_ (a' := ?_) ?_ ?_
 rotate_left
 ·show Act.put _ (some 59) _ = _
  simp only [Act.put, List.setIfInBounds_toArray, List.set_cons_zero, List.set_cons_succ, Yi, Yj]
  rfl
 refine pure_ (i := 23) (N := some 60) (v := ?_) (a' := ?_) #[true, true, true, true, true, true, true, true, true, true, true, true, true, true, true, true, true, true, true, true, true, true, true, true, false, false, false, false, false, false, false, false, false, false, false] rfl rfl (any_of HT_.out Qa8) (fun _ _ _ h => h) (Or.inl ⟨by rfl, ?_⟩) ?_ ?_
 rotate_left
 ·intro w'
  go_simp
  with_reducible rfl
 rotate_left
 ·simp only [Act.put, List.setIfInBounds_toArray, List.set_cons_zero, List.set_cons_succ, Yi, Yj]
  rfl
 refine pure_ (i := 24) (N := some 61) (v := ?_) (a' := ?_) #[true, true, true, true, true, true, true, true, true, true, true, true, true, true, true, true, true, true, true, true, true, true, true, true, true, false, false, false, false, false, false, false, false, false, false] rfl rfl (any_of HT_.out Qa8) (fun _ _ _ h => h) (Or.inl ⟨by rfl, ?_⟩) ?_ ?_
 rotate_left
 ·intro w'
  go_simp
  with_reducible rfl
 rotate_left
 ·simp only [Act.put, List.setIfInBounds_toArray, List.set_cons_zero, List.set_cons_succ, Yi, Yj]
  rfl
 refine take_ (i := 25) (N := some 62) (v := ?_) (a' := ?_) #[true, true, true, true, true, true, true, true, true, true, true, true, true, true, true, true, true, true, true, true, true, true, true, true, true, true, false, false, false, false, false, false, false, false, false] rfl rfl (take_ofW HT_.out HW_.out Qa8) (fun _ _ _ h => h) (Or.inl ⟨by rfl, ?_⟩) hHeld ?_ ?_
 rotate_left
 ·rintro w' ⟨s0, s1, s2, s3, s4, s5, s6, s7, s8, s9, s10, s11⟩
  go_simp
  with_reducible rfl
 rotate_left
 ·simp only [Act.put, List.setIfInBounds_toArray, List.set_cons_zero, List.set_cons_succ, Yi, Yj]
  rfl
 refine take_ (i := 26) (N := some 63) (v := ?_) (a' := ?_) #[true, true, true, true, true, true, true, true, true, true, true, true, true, true, true, true, true, true, true, true, true, true, true, true, true, true, true, false, false, false, false, false, false, false, false] rfl rfl (take_ofW HT_.out HW_.out Qa8) (fun _ _ _ h => h) (Or.inl ⟨by rfl, ?_⟩) hHeld ?_ ?_
 rotate_left
 ·rintro w' ⟨s0, s1, s2, s3, s4, s5, s6, s7, s8, s9, s10, s11⟩
  go_simp
  with_reducible rfl
 rotate_left
 ·simp only [Act.put, List.setIfInBounds_toArray, List.set_cons_zero, List.set_cons_succ, Yi, Yj]
  rfl
 refine one_ (i := 27) (N := some 64) #[true, true, true, true, true, true, true, true, true, true, true, true, true, true, true, true, true, true, true, true, true, true, true, true, true, true, true, true, false, false, false, false, false, false, false] rfl rfl (one_of HT_.out Qa8) (by decide) (fun K hK => ?_)
 refine goes_ Try.func54 Qa8 rfl #[.agg #[.bool t1281, .slice Ao41 t1282.length co41, .slice Ao43 t1285.length co43], .agg #[.bool t1290, .slice Ao56 t1291.length co56, .slice Ao57 t1294.length co57]] (by rfl) rfl rfl Qa2 ?_
 with_reducible refine (r2_Same.calls k t1281 _ _ t1282 _ _ t1285 t1290 _ _ t1291 _ _ t1294 true _ ?side1 ?side2 ?side3 ?side4 ?side5 ?side6 ?side7 ?side8 A23.out).mono ?_
 (case side1 => exact Qe11 (Kd.Zs HO1284.out).2.2)
 (case side2 => exact (Kd.Zs HO1284.out).2.1)
 (case side3 => exact Qe11 (Kd.Zs HO1287.out).2.2)
 (case side4 => exact (Kd.Zs HO1287.out).2.1)
 (case side5 => exact Qe11 (Kd.Zs HO1293.out).2.2)
 (case side6 => exact (Kd.Zs HO1293.out).2.1)
 (case side7 => exact Qe11 (Kd.Zs HO1296.out).2.2)
 (case side8 => exact (Kd.Zs HO1296.out).2.1)
 rintro e w80 ⟨rfl, hb⟩
 refine ⟨_, rfl, ?_⟩
 replace HO1274 := Yt.mk (Kd.Yd (Qr1 HO1274.out) hb)
 replace HO1280 := Yt.mk (Kd.Yd (Qr1 HO1280.out) hb)
 replace HO1284 := Yt.mk (Kd.Yd (Qr1 HO1284.out) hb)
 replace HO1287 := Yt.mk (Kd.Yd (Qr1 HO1287.out) hb)
 replace HO1293 := Yt.mk (Kd.Yd (Qr1 HO1293.out) hb)
 replace HO1296 := Yt.mk (Kd.Yd (Qr1 HO1296.out) hb)
 replace HO1302 := Yt.mk (Kd.Yd (Qr1 HO1302.out) hb)
 replace HO1305 := Yt.mk (Kd.Yd (Qr1 HO1305.out) hb)
 replace HO1311 := Yt.mk (Kd.Yd (Qr1 HO1311.out) hb)
 replace HO1314 := Yt.mk (Kd.Yd (Qr1 HO1314.out) hb)
 replace HO1318 := Yt.mk (Kd.Yd (Qr1 HO1318.out) hb)
 replace HO1321 := Yt.mk (Kd.Yd (Qr1 HO1321.out) hb)
 replace HO1327 := Yt.mk (Kd.Yd (Qr1 HO1327.out) hb)
 replace HO1330 := Yt.mk (Kd.Yd (Qr1 HO1330.out) hb)
 replace HO1334 := Yt.mk (Kd.Yd (Qr1 HO1334.out) hb)
 replace HO1337 := Yt.mk (Kd.Yd (Qr1 HO1337.out) hb)
 replace BK1266 := Yt.mk (Zq (g := gb1266) (o := .cells #[.bool a0_0, .slice A0_1 l0_1.length c0_1, .slice A0_2 l0_2.length c0_2] 50 (0, 0)) (Qr12 BK1266.out) hb)
 replace BK1267 := Yt.mk (Zq (g := gb1267) (o := .cells #[.bool a1_0, .slice A1_1 l1_1.length c1_1, .slice A1_2 l1_2.length c1_2] 50 (0, 0)) (Qr12 BK1267.out) hb)
 replace BK1289 := Yt.mk (Zq (g := gb1289) (o := .cells #[.bool t1281, .slice Ao41 t1282.length co41, .slice Ao43 t1285.length co43] 50 (0, 0)) (Qr12 BK1289.out) hb)
 replace BK1298 := Yt.mk (Zq (g := gb1298) (o := .cells #[.bool t1290, .slice Ao56 t1291.length co56, .slice Ao57 t1294.length co57] 50 (0, 0)) (Qr12 BK1298.out) hb)
 replace HB := Yt.mk (Zm (Qa0) hb)
 (try clear hb)
 (try clear hb2)
 (try clear hk)
 (try clear hi)
 refine hK.out _ _ ⟨(Zl BK1266.out 0).trans rfl, (Zl BK1266.out 1).trans rfl, (Zl BK1266.out 2).trans rfl, (Zl BK1267.out 0).trans rfl, (Zl BK1267.out 1).trans rfl, (Zl BK1267.out 2).trans rfl, (Zl BK1289.out 0).trans rfl, (Zl BK1289.out 1).trans rfl, (Zl BK1289.out 2).trans rfl, (Zl BK1298.out 0).trans rfl, (Zl BK1298.out 1).trans rfl, (Zl BK1298.out 2).trans rfl⟩ (fun hHeld => ?_)
 clear hK K
 refine norm_ (a' := ?_) ?_ ?_
 rotate_left
 ·show Act.put _ (some 64) _ = _
  simp only [Act.put, List.setIfInBounds_toArray, List.set_cons_zero, List.set_cons_succ, Yi, Yj]
  rfl
 refine pure_ (i := 28) (N := some 65) (v := ?_) (a' := ?_) #[true, true, true, true, true, true, true, true, true, true, true, true, true, true, true, true, true, true, true, true, true, true, true, true, true, true, true, true, true, false, false, false, false, false, false] rfl rfl (any_of HT_.out Qa8) (fun _ _ _ h => h) (Or.inl ⟨by rfl, ?_⟩) ?_ ?_
 rotate_left
 ·intro w'
  go_simp
  with_reducible rfl
 rotate_left
 ·simp only [Act.put, List.setIfInBounds_toArray, List.set_cons_zero, List.set_cons_succ, Yi, Yj]
  rfl
 refine pure_ (i := 29) (N := some 66) (v := ?_) (a' := ?_) #[true, true, true, true, true, true, true, true, true, true, true, true, true, true, true, true, true, true, true, true, true, true, true, true, true, true, true, true, true, true, false, false, false, false, false] rfl rfl (any_of HT_.out Qa8) (fun _ _ _ h => h) (Or.inl ⟨by rfl, ?_⟩) ?_ ?_
 rotate_left
 ·intro w'
  go_simp
  with_reducible rfl
 rotate_left
 ·simp only [Act.put, List.setIfInBounds_toArray, List.set_cons_zero, List.set_cons_succ, Yi, Yj]
  rfl
 refine pure_ (i := 30) (N := some 67) (v := ?_) (a' := ?_) #[true, true, true, true, true, true, true, true, true, true, true, true, true, true, true, true, true, true, true, true, true, true, true, true, true, true, true, true, true, true, true, false, false, false, false] rfl rfl (any_of HT_.out Qa8) (fun _ _ _ h => h) (Or.inl ⟨by rfl, ?_⟩) ?_ ?_
 rotate_left
 ·intro w'
  go_simp
  with_reducible rfl
 rotate_left
 ·simp only [Act.put, List.setIfInBounds_toArray, List.set_cons_zero, List.set_cons_succ, Yi, Yj]
  rfl
 refine pure_ (i := 31) (N := some 68) (v := ?_) (a' := ?_) #[true, true, true, true, true, true, true, true, true, true, true, true, true, true, true, true, true, true, true, true, true, true, true, true, true, true, true, true, true, true, true, true, false, false, false] rfl rfl (any_of HT_.out Qa8) (fun _ _ _ h => h) (Or.inl ⟨by rfl, ?_⟩) ?_ ?_
 rotate_left
 ·intro w'
  go_simp
  with_reducible rfl
 rotate_left
 ·simp only [Act.put, List.setIfInBounds_toArray, List.set_cons_zero, List.set_cons_succ, Yi, Yj]
  rfl
 refine pure_ (i := 32) (N := some 69) (v := ?_) (a' := ?_) #[true, true, true, true, true, true, true, true, true, true, true, true, true, true, true, true, true, true, true, true, true, true, true, true, true, true, true, true, true, true, true, true, true, false, false] rfl rfl (any_of HT_.out Qa8) (fun _ _ _ h => h) (Or.inl ⟨by rfl, ?_⟩) ?_ ?_
 rotate_left
 ·intro w'
  go_simp
  with_reducible rfl
 rotate_left
 ·simp only [Act.put, List.setIfInBounds_toArray, List.set_cons_zero, List.set_cons_succ, Yi, Yj]
  rfl
 refine pure_ (i := 33) (N := some 70) (v := ?_) (a' := ?_) #[true, true, true, true, true, true, true, true, true, true, true, true, true, true, true, true, true, true, true, true, true, true, true, true, true, true, true, true, true, true, true, true, true, true, false] rfl rfl (any_of HT_.out Qa8) (fun _ _ _ h => h) (Or.inl ⟨by rfl, ?_⟩) ?_ ?_
 rotate_left
 ·intro w'
  go_simp
  with_reducible rfl
 rotate_left
 ·simp only [Act.put, List.setIfInBounds_toArray, List.set_cons_zero, List.set_cons_succ, Yi, Yj]
  rfl
 refine pure_ (i := 34) (N := some 6) (v := ?_) (a' := ?_) #[true, true, true, true, true, true, true, true, true, true, true, true, true, true, true, true, true, true, true, true, true, true, true, true, true, true, true, true, true, true, true, true, true, true, true] rfl rfl (any_of HT_.out Qa8) (fun _ _ _ h => h) (Or.inl ⟨by rfl, ?_⟩) ?_ ?_
 rotate_left
 ·intro w'
  go_simp
  with_reducible rfl
 rotate_left
 ·simp only [Act.put, List.setIfInBounds_toArray, List.set_cons_zero, List.set_cons_succ, Yi, Yj]
  rfl
 refine done_ (done_of HT_.out Qa8) ?_
 try go_wp2
 go_ret
 exact ⟨Qa4, Qa0⟩
end Go.Proofs.Ytgffficaoioljaa.P
end
section
namespace Go.Proofs.Ytgffficaoioljaa.PlN
open Go.RowKit Go.Proofs.Ytgffficaoioljaa.P Go.Proofs.YtgffficaoioljaaW.PrintWords Go.Proofs.YtgffficaoioljaaW.PrintLast Go.Proofs.YtgffficaoioljaaW.PrintMore
theorem wakes2_at : w2_wakes.f 100 = some true := by decide +kernel
theorem wakes2 : Ev (fun k => w2_wakes.f k) true := Ev.of w2_wakes.mono wakes2_at
end Go.Proofs.Ytgffficaoioljaa.PlN
end
