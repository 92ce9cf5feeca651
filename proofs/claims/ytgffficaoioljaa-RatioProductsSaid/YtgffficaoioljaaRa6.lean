import Derived.Test.YtgffficaoioljaaRa5
import Derived.Test.YtgffficaoioljaaRa1
import Derived.Test.YtgffficaoioljaaProg
import Derived.KernelRfl
set_option linter.all false
section
namespace Go.Ab
open Go Go.Proofs
set_option maxRecDepth 100000
set_option linter.unusedSimpArgs false
theorem ln22 (B d h x) : abuiltin Try.prog B d h .len [22] [x] = alenN x := by kernel_rfl
theorem beql4 (x y : Operand) (a b : Bool) : pureRun Try.prog (do eqGuard .eql 4 x y (.bool a) (.bool b); binOp .eql 4 (.bool a) (.bool b)) = some (.bool (a == b)) := by cases a <;> cases b <;> kernel_rfl
theorem bs22 (B d h n ps) : abuildSlice Try.prog B d h 22 n ps = abuildSliceN 1 [.int .u32 0] B d h n ps := by kernel_rfl
theorem ap22 (B d h x y) : abuiltin Try.prog B d h .append [22, 22] [x, y] = aappN 1 [.int .u32 0] 4 B d h x y := by kernel_rfl
theorem sc22v (n xs l hi m h) : aslice Try.prog 22 (.vs n xs) l hi m h = aslcN 1 (.vs n xs) l hi m h := by kernel_rfl
theorem sc22h (k g o n z l hi m h) : aslice Try.prog 22 (.hs k g o n z) l hi m h = aslcN 1 (.hs k g o n z) l hi m h := by kernel_rfl
theorem sc22n ( l hi m h) : aslice Try.prog 22 (.sc (.slice none 0 0)) l hi m h = aslcN 1 (.sc (.slice none 0 0)) l hi m h := by kernel_rfl
theorem fa50_0 (x) : afieldAddr Try.prog 50 x 0 = afaN 0 x := by kernel_rfl
theorem ld4 (x h) : aload Try.prog 4 x h = aload1 x h := by kernel_rfl
theorem fa50_1 (x) : afieldAddr Try.prog 50 x 1 = afaN 1 x := by kernel_rfl
theorem ld22 (x h) : aload Try.prog 22 x h = aload1 x h := by kernel_rfl
theorem al50 (B d ρ h) : aeff Try.prog B (.alloc 50) d ρ h = anew B d h (fun k g => .hp k g 0) [.sc (.bool false), .sc (.slice none 0 0), .sc (.slice none 0 0)] := by kernel_rfl
theorem st50 (x v h) : astore Try.prog 50 x v h = astoreN 3 x v h := by kernel_rfl
theorem ld50 (x h) : aload Try.prog 50 x h = aloadN 3 x h := by kernel_rfl
theorem bneq4 (x y : Operand) (a b : Bool) : pureRun Try.prog (do eqGuard .neq 4 x y (.bool a) (.bool b); binOp .neq 4 (.bool a) (.bool b)) = some (.bool (a != b)) := by cases a <;> cases b <;> kernel_rfl
theorem ln67 (B d h x) : abuiltin Try.prog B d h .len [67] [x] = alenN x := by kernel_rfl
theorem ix67 (x i) : aindexAddr Try.prog 67 x i = aixN 3 x i := by kernel_rfl
theorem bs67 (B d h n ps) : abuildSlice Try.prog B d h 67 n ps = abuildSliceN 3 [.bool false, .slice none 0 0, .slice none 0 0] B d h n ps := by kernel_rfl
theorem ap67 (B d h x y) : abuiltin Try.prog B d h .append [67, 67] [x, y] = aappN 3 [.bool false, .slice none 0 0, .slice none 0 0] 56 B d h x y := by kernel_rfl
theorem mk22 (B d h n c) : amake Try.prog B d h 22 n c = amakeN 1 [.int .u32 0] 4 B d h n c := by kernel_rfl
theorem ix22 (x i) : aindexAddr Try.prog 22 x i = aixN 1 x i := by kernel_rfl
theorem ld47 (x h) : aload Try.prog 47 x h = aload1 x h := by kernel_rfl
theorem cv47_79 (B d h k n) : aconv Try.prog B d h 47 79 (.sc (.int k n)) = some (.sc (.int .u64 (IntKind.wrap .u64 n)), []) := by kernel_rfl
theorem cv79_47 (B d h k n) : aconv Try.prog B d h 79 47 (.sc (.int k n)) = some (.sc (.int .u32 (IntKind.wrap .u32 n)), []) := by kernel_rfl
theorem st47 (x v h) : astore Try.prog 47 x v h = astoreN 1 x v h := by kernel_rfl
theorem cv3_82 (B d h k n) : aconv Try.prog B d h 3 82 (.sc (.int k n)) = some (.sc (.int .u64 (IntKind.wrap .u64 n)), []) := by kernel_rfl
theorem sc9 (s l hi m h) : aslice Try.prog 9 (.sc (.string s)) l hi m h = aslcS (.sc (.string s)) l hi m := by kernel_rfl
theorem ln9 (B d h x) : abuiltin Try.prog B d h .len [9] [x] = alenS x := by kernel_rfl
theorem cv21_47 (B d h k n) : aconv Try.prog B d h 21 47 (.sc (.int k n)) = some (.sc (.int .u32 (IntKind.wrap .u32 n)), []) := by kernel_rfl
theorem ixs9 (x i) : aindex Try.prog 9 x i = aixS x i := by kernel_rfl
theorem cv5_79 (B d h k n) : aconv Try.prog B d h 5 79 (.sc (.int k n)) = some (.sc (.int .u64 (IntKind.wrap .u64 n)), []) := by kernel_rfl
theorem cv47_2 (B d h k n) : aconv Try.prog B d h 47 2 (.sc (.int k n)) = some (.sc (.int .i64 (IntKind.wrap .i64 n)), []) := by kernel_rfl
theorem cv2_47 (B d h k n) : aconv Try.prog B d h 2 47 (.sc (.int k n)) = some (.sc (.int .u32 (IntKind.wrap .u32 n)), []) := by kernel_rfl
theorem bd50 (ps) : abuild Try.prog 50 ps = abuildN [(0, 1), (1, 1), (2, 1)] [.sc (.bool false), .sc (.slice none 0 0), .sc (.slice none 0 0)] ps := by kernel_rfl
theorem fa50_2 (x) : afieldAddr Try.prog 50 x 2 = afaN 2 x := by kernel_rfl
theorem cv3_79 (B d h k n) : aconv Try.prog B d h 3 79 (.sc (.int k n)) = some (.sc (.int .u64 (IntKind.wrap .u64 n)), []) := by kernel_rfl
theorem st22 (x v h) : astore Try.prog 22 x v h = astoreN 1 x v h := by kernel_rfl
theorem cp22 (B d h x y) : abuiltin Try.prog B d h .copy [22, 22] [x, y] = acpyN 1 h x y := by kernel_rfl
theorem cv47_5 (B d h k n) : aconv Try.prog B d h 47 5 (.sc (.int k n)) = some (.sc (.int .u8 (IntKind.wrap .u8 n)), []) := by kernel_rfl
theorem bs98 (B d h n ps) : abuildSlice Try.prog B d h 98 n ps = abuildSliceN 1 [.int .u8 0] B d h n ps := by kernel_rfl
theorem ap98 (B d h x y) : abuiltin Try.prog B d h .append [98, 98] [x, y] = aappN 1 [.int .u8 0] 1 B d h x y := by kernel_rfl
theorem ln98 (B d h x) : abuiltin Try.prog B d h .len [98] [x] = alenN x := by kernel_rfl
theorem ix98 (x i) : aindexAddr Try.prog 98 x i = aixN 1 x i := by kernel_rfl
theorem ld5 (x h) : aload Try.prog 5 x h = aload1 x h := by kernel_rfl
theorem sc98v (n xs l hi m h) : aslice Try.prog 98 (.vs n xs) l hi m h = aslcN 1 (.vs n xs) l hi m h := by kernel_rfl
theorem sc98h (k g o n z l hi m h) : aslice Try.prog 98 (.hs k g o n z) l hi m h = aslcN 1 (.hs k g o n z) l hi m h := by kernel_rfl
theorem sc98n ( l hi m h) : aslice Try.prog 98 (.sc (.slice none 0 0)) l hi m h = aslcN 1 (.sc (.slice none 0 0)) l hi m h := by kernel_rfl
theorem st5 (x v h) : astore Try.prog 5 x v h = astoreN 1 x v h := by kernel_rfl
theorem al101 (B d ρ h) : aeff Try.prog B (.alloc 101) d ρ h = anew B d h (fun k g => .hp k g 0) [.sc (.int .i64 0), .sc (.int .i64 0), .sc (.int .i64 0), .sc (.int .i64 0), .sc (.int .i64 0), .sc (.int .i64 0), .sc (.int .i64 0), .sc (.int .i64 0), .sc (.int .i64 0), .sc (.int .i64 0), .sc (.int .i64 0), .sc (.int .i64 0), .sc (.int .i64 0), .sc (.int .i64 0), .sc (.int .i64 0), .sc (.int .i64 0)] := by kernel_rfl
theorem st101 (x v h) : astore Try.prog 101 x v h = astoreN 16 x v h := by kernel_rfl
theorem ld3 (x h) : aload Try.prog 3 x h = aload1 x h := by kernel_rfl
theorem cv5_47 (B d h k n) : aconv Try.prog B d h 5 47 (.sc (.int k n)) = some (.sc (.int .u32 (IntKind.wrap .u32 n)), []) := by kernel_rfl
theorem cv5_3 (B d h k n) : aconv Try.prog B d h 5 3 (.sc (.int k n)) = some (.sc (.int .i64 (IntKind.wrap .i64 n)), []) := by kernel_rfl
theorem mixed : Try.prog.follows .mixedOrders = true := by kernel_rfl
theorem T {p q : Prop} (x : q) (h : q → p := by
  intro x_
  repeat first
    | with_reducible apply w_seq
    | with_reducible apply w_block
    | with_reducible apply w_ret
    | with_reducible apply w_skip
    | with_reducible apply w_exit
    | with_reducible apply n_normal
    | with_reducible apply n_exit
    | with_reducible apply n_ret
    | with_reducible apply b_normal
    | with_reducible apply b_exit
    | with_reducible apply b_ret
    | (with_reducible apply b_other; decide)
    | with_reducible apply w_regD
    | with_reducible apply w_regL
    | (with_reducible refine ok_and (by kernel_rfl) ?_)
    | (with_reducible apply cond_t; (simp only [initH_t, initH_h, ev_tmp, ev_const, ev_global, ev_func, hall_at, Go.Ab.tt, Go.Ab.th, Go.Ab.ht, Go.Ab.hh, init_t, init_h, kn_tt, kn_th, kn_ht, kn_hh, kn_nil, List.getD_cons_zero, List.getD_cons_succ, Nat.reduceEqDiff, reduceIte] <;> done))
    | (with_reducible apply cond_f; (simp only [initH_t, initH_h, ev_tmp, ev_const, ev_global, ev_func, hall_at, Go.Ab.tt, Go.Ab.th, Go.Ab.ht, Go.Ab.hh, init_t, init_h, kn_tt, kn_th, kn_ht, kn_hh, kn_nil, List.getD_cons_zero, List.getD_cons_succ, Nat.reduceEqDiff, reduceIte] <;> done))
    | (simp (disch := first | omega | (simp only [List.length_append, List.length_cons, List.length_nil, List.length_take, List.length_drop, List.length_set, List.length_replicate]; omega)) only [a_nil, a_move, a_assign, a_pick, a_alloc, a_box, a_build, a_buildSlice, a_load, a_store, a_bin, a_un, a_conv, a_make, a_slice, a_fieldAddr, a_field, a_indexAddr, a_index, a_extract, a_len, a_append, a_copy, a_call, a_guard, a_then, av_some, g_yes, g_tf, g_ft, g_no, put, appH_nil, appH_one, abin, ibin, aun, aextract, bnd, Option.map_some, Option.map_none, beq_i, bne_i, tdv, tmd, fdv, wru32, wru64, wru8, IntKind.bits, Int.reduceToNat, min_l, Int.reducePow, Int.reduceMul, Int.reduceAdd, Int.reduceNeg, Int.reduceLT, Int.reduceLE, Int.reduceEq, Int.cast_ofNat_Int, dec_t, dec_f, ite_t, ite_f, get_i, apick_t, apick_f, wr_i64, emod_fit, take_all, List.take_take, Nat.min_self, ayield, ayv_b, ayv_u, Option.bind_some, List.map_cons, List.map_nil, List.getElem?_toArray, List.getElem?_cons_zero, List.getElem?_cons_succ, List.length_map, List.getElem?_drop, List.getElem?_map, Nat.mul_one, Nat.one_mul, Nat.zero_mul, Nat.zero_add, Nat.add_zero, Int.toNat_zero, Int.toNat_natCast, Int.toNat_one, tn1, tn2, tns1, sub_mid, AV.to, AV.toL, Nat.sub_self, getD_mid, set_mid, tnn2, tns, tn21, ndiv32, nmod32, cs2, sub21, sub22, or64, or64', Go.Ab.cs, decide_true, decide_false, Int.add_sub_cancel, Nat.sub_zero, List.drop_zero, Bool.false_eq_true, Bool.not_true, Bool.not_false, frz, frzL, List.map_nil, d_nil, d_none, d_some, h_call, h_move, h_assign, h_pick, h_alloc, h_box, h_build, h_buildSlice, h_load, h_store, h_bin, h_un, h_conv, h_make, h_slice, h_fieldAddr, h_field, h_indexAddr, h_index, h_extract, h_len, h_append, h_copy, d_then, dv_some, dg_yes, dg_tf, dg_ft, dg_no, siteB_some, siteB_none, tmpsOf_nil, tmpsOf_t, tmpsOf_c, tmpsOf_f, tmpsOf_g, hr_at, sitesB, rds, wr_some, wr_none, Op.operands, Call.operands, AV.fp, AV.fpL, guardOf, Option.toList_some, Array.toList_append, List.contains_cons, List.contains_nil, Nat.reduceBEq, Bool.or_false, Bool.or_true, Bool.true_or, Bool.false_or, beq_self_eq_true, initH_t, initH_h, ev_tmp, ev_const, ev_global, ev_func, hall_at, Go.Ab.tt, Go.Ab.th, Go.Ab.ht, Go.Ab.hh, init_t, init_h, kn_tt, kn_th, kn_ht, kn_hh, kn_nil, List.getD_cons_zero, List.getD_cons_succ, Nat.reduceEqDiff, reduceIte, List.flatten_cons, List.flatten_nil, anew, app_u, ← List.map_append, List.length_append, List.replicate_zero, ← rep_map, ← List.map_set, genOf_blk, all_u32, fz_u32, ← List.map_take, ← List.map_drop, List.length_take, List.length_drop, List.length_set, List.reduceReplicate, List.all_cons, List.all_nil, List.all_append, Bool.and_true, Bool.true_and, AV.one, oneV, AV.cellsA, setAt, List.set_cons_zero, List.set_cons_succ, List.length_cons, List.length_nil, Nat.reduceAdd, Nat.reduceLeDiff, Nat.reduceMul, Nat.reduceLT, Nat.reducePow, Nat.reduceSub, true_and, and_true, and_self, ne_eq, not_false_eq_true, afill, abuildN, zrow, List.headD_cons, fzn, AV.fz, Value.cells, alen, arow, List.length_replicate, List.cons_append, List.nil_append, List.append_nil, List.take_succ_cons, List.take_zero, List.drop_succ_cons, aload1, aloadN, acutN, astoreN, abuildSliceN, amakeN, afaN, afd1, afdN, aixN, aslcN, aslcS, aixS_at, alenN, alenS, aappN, acpyN, ln22, beql4, bs22, ap22, sc22v, sc22h, sc22n, fa50_0, ld4, fa50_1, ld22, al50, st50, ld50, bneq4, ln67, ix67, bs67, ap67, mk22, ix22, ld47, cv47_79, cv79_47, st47, cv3_82, sc9, ln9, cv21_47, ixs9, cv5_79, cv47_2, cv2_47, bd50, fa50_2, cv3_79, st22, cp22, cv47_5, bs98, ap98, ln98, ix98, ld5, sc98v, sc98h, sc98n, st5, al101, st101, ld3, cv5_47, cv5_3])
  exact x_) : p := h x
theorem TR {p q : Prop} (x : q) (h : q → p := by
  intro x_
  repeat first
    | with_reducible apply w_seq
    | with_reducible apply w_block
    | with_reducible apply w_ret
    | with_reducible apply w_skip
    | with_reducible apply w_exit
    | with_reducible apply n_normal
    | with_reducible apply n_exit
    | with_reducible apply n_ret
    | with_reducible apply b_normal
    | with_reducible apply b_exit
    | with_reducible apply b_ret
    | (with_reducible apply b_other; decide)
    | with_reducible apply w_regD
    | with_reducible apply w_regL
    | (with_reducible refine ok_and (by kernel_rfl) ?_)
    | (with_reducible apply cond_t; (simp only [initH_t, initH_h, ev_tmp, ev_const, ev_global, ev_func, hall_at, Go.Ab.tt, Go.Ab.th, Go.Ab.ht, Go.Ab.hh, init_t, init_h, kn_tt, kn_th, kn_ht, kn_hh, kn_nil, List.getD_cons_zero, List.getD_cons_succ, Nat.reduceEqDiff, reduceIte] <;> done))
    | (with_reducible apply cond_f; (simp only [initH_t, initH_h, ev_tmp, ev_const, ev_global, ev_func, hall_at, Go.Ab.tt, Go.Ab.th, Go.Ab.ht, Go.Ab.hh, init_t, init_h, kn_tt, kn_th, kn_ht, kn_hh, kn_nil, List.getD_cons_zero, List.getD_cons_succ, Nat.reduceEqDiff, reduceIte] <;> done))
    | (simp (disch := first | omega | (simp only [List.length_append, List.length_cons, List.length_nil, List.length_take, List.length_drop, List.length_set, List.length_replicate]; omega)) only [a_nil, a_move, a_assign, a_pick, a_alloc, a_box, a_build, a_buildSlice, a_load, a_store, a_bin, a_un, a_conv, a_make, a_slice, a_fieldAddr, a_field, a_indexAddr, a_index, a_extract, a_len, a_append, a_copy, a_call, a_guard, a_then, av_some, g_yes, g_tf, g_ft, g_no, put, appH_nil, appH_one, abin, ibin, aun, aextract, bnd, Option.map_some, Option.map_none, beq_i, bne_i, tdv, tmd, fdv, wru32, wru64, wru8, IntKind.bits, Int.reduceToNat, min_l, Int.reducePow, Int.reduceMul, Int.reduceAdd, Int.reduceNeg, Int.reduceLT, Int.reduceLE, Int.reduceEq, Int.cast_ofNat_Int, dec_t, dec_f, ite_t, ite_f, get_i, apick_t, apick_f, wr_i64, emod_fit, take_all, List.take_take, Nat.min_self, ayield, ayv_b, ayv_u, Option.bind_some, List.map_cons, List.map_nil, List.getElem?_toArray, List.getElem?_cons_zero, List.getElem?_cons_succ, List.length_map, List.getElem?_drop, List.getElem?_map, Nat.mul_one, Nat.one_mul, Nat.zero_mul, Nat.zero_add, Nat.add_zero, Int.toNat_zero, Int.toNat_natCast, Int.toNat_one, tn1, tn2, tns1, sub_mid, AV.to, AV.toL, Nat.sub_self, getD_mid, set_mid, tnn2, tns, tn21, ndiv32, nmod32, cs2, sub21, sub22, or64, or64', Go.Ab.cs, decide_true, decide_false, Int.add_sub_cancel, Nat.sub_zero, List.drop_zero, Bool.false_eq_true, Bool.not_true, Bool.not_false, frz, frzL, List.map_nil, d_nil, d_none, d_some, h_call, h_move, h_assign, h_pick, h_alloc, h_box, h_build, h_buildSlice, h_load, h_store, h_bin, h_un, h_conv, h_make, h_slice, h_fieldAddr, h_field, h_indexAddr, h_index, h_extract, h_len, h_append, h_copy, d_then, dv_some, dg_yes, dg_tf, dg_ft, dg_no, siteB_some, siteB_none, tmpsOf_nil, tmpsOf_t, tmpsOf_c, tmpsOf_f, tmpsOf_g, hr_at, sitesB, rds, wr_some, wr_none, Op.operands, Call.operands, AV.fp, AV.fpL, guardOf, Option.toList_some, Array.toList_append, List.contains_cons, List.contains_nil, Nat.reduceBEq, Bool.or_false, Bool.or_true, Bool.true_or, Bool.false_or, beq_self_eq_true, initH_t, initH_h, ev_tmp, ev_const, ev_global, ev_func, hall_at, Go.Ab.tt, Go.Ab.th, Go.Ab.ht, Go.Ab.hh, init_t, init_h, kn_tt, kn_th, kn_ht, kn_hh, kn_nil, List.getD_cons_zero, List.getD_cons_succ, Nat.reduceEqDiff, reduceIte, List.flatten_cons, List.flatten_nil, anew, app_u, ← List.map_append, List.length_append, List.replicate_zero, ← rep_map, ← List.map_set, genOf_blk, all_u32, fz_u32, ← List.map_take, ← List.map_drop, List.length_take, List.length_drop, List.length_set, List.reduceReplicate, List.all_cons, List.all_nil, List.all_append, Bool.and_true, Bool.true_and, AV.one, oneV, AV.cellsA, setAt, List.set_cons_zero, List.set_cons_succ, List.length_cons, List.length_nil, Nat.reduceAdd, Nat.reduceLeDiff, Nat.reduceMul, Nat.reduceLT, Nat.reducePow, Nat.reduceSub, true_and, and_true, and_self, ne_eq, not_false_eq_true, afill, abuildN, zrow, List.headD_cons, fzn, AV.fz, Value.cells, alen, arow, List.length_replicate, List.cons_append, List.nil_append, List.append_nil, List.take_succ_cons, List.take_zero, List.drop_succ_cons, aload1, aloadN, acutN, astoreN, abuildSliceN, amakeN, afaN, afd1, afdN, aixN, aslcN, aslcS, aixS_at, alenN, alenS, aappN, acpyN, ln22, beql4, bs22, ap22, sc22v, sc22h, sc22n, fa50_0, ld4, fa50_1, ld22, al50, st50, ld50, bneq4, ln67, ix67, bs67, ap67, mk22, ix22, ld47, cv47_79, cv79_47, st47, cv3_82, sc9, ln9, cv21_47, ixs9, cv5_79, cv47_2, cv2_47, bd50, fa50_2, cv3_79, st22, cp22, cv47_5, bs98, ap98, ln98, ix98, ld5, sc98v, sc98h, sc98n, st5, al101, st101, ld3, cv5_47, cv5_3])
  with_reducible apply r_ret
  simp (disch := first | omega | (simp only [List.length_append, List.length_cons, List.length_nil, List.length_take, List.length_drop, List.length_set, List.length_replicate]; omega)) only [retv, ares, tupA, frz, frzL, ret_some, a_nil, a_move, a_assign, a_pick, a_alloc, a_box, a_build, a_buildSlice, a_load, a_store, a_bin, a_un, a_conv, a_make, a_slice, a_fieldAddr, a_field, a_indexAddr, a_index, a_extract, a_len, a_append, a_copy, a_call, a_guard, a_then, av_some, g_yes, g_tf, g_ft, g_no, put, appH_nil, appH_one, abin, ibin, aun, aextract, bnd, Option.map_some, Option.map_none, beq_i, bne_i, tdv, tmd, fdv, wru32, wru64, wru8, IntKind.bits, Int.reduceToNat, min_l, Int.reducePow, Int.reduceMul, Int.reduceAdd, Int.reduceNeg, Int.reduceLT, Int.reduceLE, Int.reduceEq, Int.cast_ofNat_Int, dec_t, dec_f, ite_t, ite_f, get_i, apick_t, apick_f, wr_i64, emod_fit, take_all, List.take_take, Nat.min_self, ayield, ayv_b, ayv_u, Option.bind_some, List.map_cons, List.map_nil, List.getElem?_toArray, List.getElem?_cons_zero, List.getElem?_cons_succ, List.length_map, List.getElem?_drop, List.getElem?_map, Nat.mul_one, Nat.one_mul, Nat.zero_mul, Nat.zero_add, Nat.add_zero, Int.toNat_zero, Int.toNat_natCast, Int.toNat_one, tn1, tn2, tns1, sub_mid, AV.to, AV.toL, Nat.sub_self, getD_mid, set_mid, tnn2, tns, tn21, ndiv32, nmod32, cs2, sub21, sub22, or64, or64', Go.Ab.cs, decide_true, decide_false, Int.add_sub_cancel, Nat.sub_zero, List.drop_zero, Bool.false_eq_true, Bool.not_true, Bool.not_false, frz, frzL, List.map_nil, initH_t, initH_h, ev_tmp, ev_const, ev_global, ev_func, hall_at, Go.Ab.tt, Go.Ab.th, Go.Ab.ht, Go.Ab.hh, init_t, init_h, kn_tt, kn_th, kn_ht, kn_hh, kn_nil, List.getD_cons_zero, List.getD_cons_succ, Nat.reduceEqDiff, reduceIte, List.flatten_cons, List.flatten_nil, anew, app_u, ← List.map_append, List.length_append, List.replicate_zero, ← rep_map, ← List.map_set, genOf_blk, all_u32, fz_u32, ← List.map_take, ← List.map_drop, List.length_take, List.length_drop, List.length_set, List.reduceReplicate, List.all_cons, List.all_nil, List.all_append, Bool.and_true, Bool.true_and, AV.one, oneV, AV.cellsA, setAt, List.set_cons_zero, List.set_cons_succ, List.length_cons, List.length_nil, Nat.reduceAdd, Nat.reduceLeDiff, Nat.reduceMul, Nat.reduceLT, Nat.reducePow, Nat.reduceSub, true_and, and_true, and_self, ne_eq, not_false_eq_true, afill, abuildN, zrow, List.headD_cons, fzn, AV.fz, Value.cells, alen, arow, List.length_replicate, List.cons_append, List.nil_append, List.append_nil, List.take_succ_cons, List.take_zero, List.drop_succ_cons, aload1, aloadN, acutN, astoreN, abuildSliceN, amakeN, afaN, afd1, afdN, aixN, aslcN, aslcS, aixS_at, alenN, alenS, aappN, acpyN, ln22, beql4, bs22, ap22, sc22v, sc22h, sc22n, fa50_0, ld4, fa50_1, ld22, al50, st50, ld50, bneq4, ln67, ix67, bs67, ap67, mk22, ix22, ld47, cv47_79, cv79_47, st47, cv3_82, sc9, ln9, cv21_47, ixs9, cv5_79, cv47_2, cv2_47, bd50, fa50_2, cv3_79, st22, cp22, cv47_5, bs98, ap98, ln98, ix98, ld5, sc98v, sc98h, sc98n, st5, al101, st101, ld3, cv5_47, cv5_3, Try.results3, Try.results4, Try.results5, Try.results6, Try.results7, Try.results8, Try.results9, Try.results10, Try.results11, Try.results12, Try.results13, Try.results14, Try.results15, Try.results16, Try.results17, Try.results18, Try.results19, Try.results20, Try.results21, Try.results22, Try.results23, Try.results24, Try.results25, Try.results26, Try.results27, Try.results28, Try.results29, Try.results30, Try.results31, Try.results32, Try.results33, Try.results34, Try.results35, Try.results36, Try.results37, Try.results38, Try.results39, Try.results40, Try.results41, Try.results42, Try.results43, Try.results44, Try.results45, Try.results46, Try.results47, Try.results48, Try.results49, Try.results50, Try.results51, Try.results52, Try.results53, Try.results54, Try.results55, Try.results56, Try.results57, Try.results58, Try.results59, Try.results60, Try.results61, Try.results62, Try.results63, Try.results64, Try.results65, Try.results66, Try.results67, Try.results68, Try.results69, Try.results70, Try.results71, Try.results72, Try.results73, Try.results74, Try.results75, Try.results76, Try.results77, Try.results78, Try.results79, Try.results80, Try.results81, Try.results82, Try.results83, Try.results84, Try.results85, Try.results86, Try.results87, Try.results88, Try.results89, Try.results90, Try.results91, Try.results92, Try.results93, Try.results94, Try.results95, Try.results96, Try.results97, Try.results98, Try.results99, Try.results100, Try.results101, Try.results102, Try.results103, Try.results104, Try.results105, Try.results106, Try.results107, Try.results108, Try.results109, Try.results110, Try.results111, Try.results112, Try.results113, Try.results114, Try.results115, Try.results116]
  with_reducible apply wk_eq
  exact x_) : p := h x
theorem TH {p q : Prop} (x : q) (h : q → p := by
  intro x_
  repeat first
    | with_reducible apply w_seq
    | with_reducible apply w_block
    | with_reducible apply w_ret
    | with_reducible apply w_skip
    | with_reducible apply w_exit
    | with_reducible apply n_normal
    | with_reducible apply n_exit
    | with_reducible apply n_ret
    | with_reducible apply b_normal
    | with_reducible apply b_exit
    | with_reducible apply b_ret
    | (with_reducible apply b_other; decide)
    | with_reducible apply w_regD
    | with_reducible apply w_regL
    | (with_reducible refine ok_and (by kernel_rfl) ?_)
    | (with_reducible apply cond_t; (simp only [initH_t, initH_h, ev_tmp, ev_const, ev_global, ev_func, hall_at, Go.Ab.tt, Go.Ab.th, Go.Ab.ht, Go.Ab.hh, init_t, init_h, kn_tt, kn_th, kn_ht, kn_hh, kn_nil, List.getD_cons_zero, List.getD_cons_succ, Nat.reduceEqDiff, reduceIte] <;> done))
    | (with_reducible apply cond_f; (simp only [initH_t, initH_h, ev_tmp, ev_const, ev_global, ev_func, hall_at, Go.Ab.tt, Go.Ab.th, Go.Ab.ht, Go.Ab.hh, init_t, init_h, kn_tt, kn_th, kn_ht, kn_hh, kn_nil, List.getD_cons_zero, List.getD_cons_succ, Nat.reduceEqDiff, reduceIte] <;> done))
    | (simp (disch := first | omega | (simp only [List.length_append, List.length_cons, List.length_nil, List.length_take, List.length_drop, List.length_set, List.length_replicate]; omega)) only [a_nil, a_move, a_assign, a_pick, a_alloc, a_box, a_build, a_buildSlice, a_load, a_store, a_bin, a_un, a_conv, a_make, a_slice, a_fieldAddr, a_field, a_indexAddr, a_index, a_extract, a_len, a_append, a_copy, a_call, a_guard, a_then, av_some, g_yes, g_tf, g_ft, g_no, put, appH_nil, appH_one, abin, ibin, aun, aextract, bnd, Option.map_some, Option.map_none, beq_i, bne_i, tdv, tmd, fdv, wru32, wru64, wru8, IntKind.bits, Int.reduceToNat, min_l, Int.reducePow, Int.reduceMul, Int.reduceAdd, Int.reduceNeg, Int.reduceLT, Int.reduceLE, Int.reduceEq, Int.cast_ofNat_Int, dec_t, dec_f, ite_t, ite_f, get_i, apick_t, apick_f, wr_i64, emod_fit, take_all, List.take_take, Nat.min_self, ayield, ayv_b, ayv_u, Option.bind_some, List.map_cons, List.map_nil, List.getElem?_toArray, List.getElem?_cons_zero, List.getElem?_cons_succ, List.length_map, List.getElem?_drop, List.getElem?_map, Nat.mul_one, Nat.one_mul, Nat.zero_mul, Nat.zero_add, Nat.add_zero, Int.toNat_zero, Int.toNat_natCast, Int.toNat_one, tn1, tn2, tns1, sub_mid, AV.to, AV.toL, Nat.sub_self, getD_mid, set_mid, tnn2, tns, tn21, ndiv32, nmod32, cs2, sub21, sub22, or64, or64', Go.Ab.cs, decide_true, decide_false, Int.add_sub_cancel, Nat.sub_zero, List.drop_zero, Bool.false_eq_true, Bool.not_true, Bool.not_false, frz, frzL, List.map_nil, d_nil, d_none, d_some, h_call, h_move, h_assign, h_pick, h_alloc, h_box, h_build, h_buildSlice, h_load, h_store, h_bin, h_un, h_conv, h_make, h_slice, h_fieldAddr, h_field, h_indexAddr, h_index, h_extract, h_len, h_append, h_copy, d_then, dv_some, dg_yes, dg_tf, dg_ft, dg_no, siteB_some, siteB_none, tmpsOf_nil, tmpsOf_t, tmpsOf_c, tmpsOf_f, tmpsOf_g, hr_at, sitesB, rds, wr_some, wr_none, Op.operands, Call.operands, AV.fp, AV.fpL, guardOf, Option.toList_some, Array.toList_append, List.contains_cons, List.contains_nil, Nat.reduceBEq, Bool.or_false, Bool.or_true, Bool.true_or, Bool.false_or, beq_self_eq_true, initH_t, initH_h, ev_tmp, ev_const, ev_global, ev_func, hall_at, Go.Ab.tt, Go.Ab.th, Go.Ab.ht, Go.Ab.hh, init_t, init_h, kn_tt, kn_th, kn_ht, kn_hh, kn_nil, List.getD_cons_zero, List.getD_cons_succ, Nat.reduceEqDiff, reduceIte, List.flatten_cons, List.flatten_nil, anew, app_u, ← List.map_append, List.length_append, List.replicate_zero, ← rep_map, ← List.map_set, genOf_blk, all_u32, fz_u32, ← List.map_take, ← List.map_drop, List.length_take, List.length_drop, List.length_set, List.reduceReplicate, List.all_cons, List.all_nil, List.all_append, Bool.and_true, Bool.true_and, AV.one, oneV, AV.cellsA, setAt, List.set_cons_zero, List.set_cons_succ, List.length_cons, List.length_nil, Nat.reduceAdd, Nat.reduceLeDiff, Nat.reduceMul, Nat.reduceLT, Nat.reducePow, Nat.reduceSub, true_and, and_true, and_self, ne_eq, not_false_eq_true, afill, abuildN, zrow, List.headD_cons, fzn, AV.fz, Value.cells, alen, arow, List.length_replicate, List.cons_append, List.nil_append, List.append_nil, List.take_succ_cons, List.take_zero, List.drop_succ_cons, aload1, aloadN, acutN, astoreN, abuildSliceN, amakeN, afaN, afd1, afdN, aixN, aslcN, aslcS, aixS_at, alenN, alenS, aappN, acpyN, ln22, beql4, bs22, ap22, sc22v, sc22h, sc22n, fa50_0, ld4, fa50_1, ld22, al50, st50, ld50, bneq4, ln67, ix67, bs67, ap67, mk22, ix22, ld47, cv47_79, cv79_47, st47, cv3_82, sc9, ln9, cv21_47, ixs9, cv5_79, cv47_2, cv2_47, bd50, fa50_2, cv3_79, st22, cp22, cv47_5, bs98, ap98, ln98, ix98, ld5, sc98v, sc98h, sc98n, st5, al101, st101, ld3, cv5_47, cv5_3])
  with_reducible apply r_retH
  simp (disch := first | omega | (simp only [List.length_append, List.length_cons, List.length_nil, List.length_take, List.length_drop, List.length_set, List.length_replicate]; omega)) only [retv, ares, tupA, frz, frzL, ret_some, a_nil, a_move, a_assign, a_pick, a_alloc, a_box, a_build, a_buildSlice, a_load, a_store, a_bin, a_un, a_conv, a_make, a_slice, a_fieldAddr, a_field, a_indexAddr, a_index, a_extract, a_len, a_append, a_copy, a_call, a_guard, a_then, av_some, g_yes, g_tf, g_ft, g_no, put, appH_nil, appH_one, abin, ibin, aun, aextract, bnd, Option.map_some, Option.map_none, beq_i, bne_i, tdv, tmd, fdv, wru32, wru64, wru8, IntKind.bits, Int.reduceToNat, min_l, Int.reducePow, Int.reduceMul, Int.reduceAdd, Int.reduceNeg, Int.reduceLT, Int.reduceLE, Int.reduceEq, Int.cast_ofNat_Int, dec_t, dec_f, ite_t, ite_f, get_i, apick_t, apick_f, wr_i64, emod_fit, take_all, List.take_take, Nat.min_self, ayield, ayv_b, ayv_u, Option.bind_some, List.map_cons, List.map_nil, List.getElem?_toArray, List.getElem?_cons_zero, List.getElem?_cons_succ, List.length_map, List.getElem?_drop, List.getElem?_map, Nat.mul_one, Nat.one_mul, Nat.zero_mul, Nat.zero_add, Nat.add_zero, Int.toNat_zero, Int.toNat_natCast, Int.toNat_one, tn1, tn2, tns1, sub_mid, AV.to, AV.toL, Nat.sub_self, getD_mid, set_mid, tnn2, tns, tn21, ndiv32, nmod32, cs2, sub21, sub22, or64, or64', Go.Ab.cs, decide_true, decide_false, Int.add_sub_cancel, Nat.sub_zero, List.drop_zero, Bool.false_eq_true, Bool.not_true, Bool.not_false, frz, frzL, List.map_nil, initH_t, initH_h, ev_tmp, ev_const, ev_global, ev_func, hall_at, Go.Ab.tt, Go.Ab.th, Go.Ab.ht, Go.Ab.hh, init_t, init_h, kn_tt, kn_th, kn_ht, kn_hh, kn_nil, List.getD_cons_zero, List.getD_cons_succ, Nat.reduceEqDiff, reduceIte, List.flatten_cons, List.flatten_nil, anew, app_u, ← List.map_append, List.length_append, List.replicate_zero, ← rep_map, ← List.map_set, genOf_blk, all_u32, fz_u32, ← List.map_take, ← List.map_drop, List.length_take, List.length_drop, List.length_set, List.reduceReplicate, List.all_cons, List.all_nil, List.all_append, Bool.and_true, Bool.true_and, AV.one, oneV, AV.cellsA, setAt, List.set_cons_zero, List.set_cons_succ, List.length_cons, List.length_nil, Nat.reduceAdd, Nat.reduceLeDiff, Nat.reduceMul, Nat.reduceLT, Nat.reducePow, Nat.reduceSub, true_and, and_true, and_self, ne_eq, not_false_eq_true, afill, abuildN, zrow, List.headD_cons, fzn, AV.fz, Value.cells, alen, arow, List.length_replicate, List.cons_append, List.nil_append, List.append_nil, List.take_succ_cons, List.take_zero, List.drop_succ_cons, aload1, aloadN, acutN, astoreN, abuildSliceN, amakeN, afaN, afd1, afdN, aixN, aslcN, aslcS, aixS_at, alenN, alenS, aappN, acpyN, ln22, beql4, bs22, ap22, sc22v, sc22h, sc22n, fa50_0, ld4, fa50_1, ld22, al50, st50, ld50, bneq4, ln67, ix67, bs67, ap67, mk22, ix22, ld47, cv47_79, cv79_47, st47, cv3_82, sc9, ln9, cv21_47, ixs9, cv5_79, cv47_2, cv2_47, bd50, fa50_2, cv3_79, st22, cp22, cv47_5, bs98, ap98, ln98, ix98, ld5, sc98v, sc98h, sc98n, st5, al101, st101, ld3, cv5_47, cv5_3, Try.results3, Try.results4, Try.results5, Try.results6, Try.results7, Try.results8, Try.results9, Try.results10, Try.results11, Try.results12, Try.results13, Try.results14, Try.results15, Try.results16, Try.results17, Try.results18, Try.results19, Try.results20, Try.results21, Try.results22, Try.results23, Try.results24, Try.results25, Try.results26, Try.results27, Try.results28, Try.results29, Try.results30, Try.results31, Try.results32, Try.results33, Try.results34, Try.results35, Try.results36, Try.results37, Try.results38, Try.results39, Try.results40, Try.results41, Try.results42, Try.results43, Try.results44, Try.results45, Try.results46, Try.results47, Try.results48, Try.results49, Try.results50, Try.results51, Try.results52, Try.results53, Try.results54, Try.results55, Try.results56, Try.results57, Try.results58, Try.results59, Try.results60, Try.results61, Try.results62, Try.results63, Try.results64, Try.results65, Try.results66, Try.results67, Try.results68, Try.results69, Try.results70, Try.results71, Try.results72, Try.results73, Try.results74, Try.results75, Try.results76, Try.results77, Try.results78, Try.results79, Try.results80, Try.results81, Try.results82, Try.results83, Try.results84, Try.results85, Try.results86, Try.results87, Try.results88, Try.results89, Try.results90, Try.results91, Try.results92, Try.results93, Try.results94, Try.results95, Try.results96, Try.results97, Try.results98, Try.results99, Try.results100, Try.results101, Try.results102, Try.results103, Try.results104, Try.results105, Try.results106, Try.results107, Try.results108, Try.results109, Try.results110, Try.results111, Try.results112, Try.results113, Try.results114, Try.results115, Try.results116, retvH, retH_some, frzHL, frzH, AV.keep, AV.keepL, List.contains_nil, List.nil_append, true_and, and_true, BEq.rfl]
  exact x_) : p := h x
theorem TO {p q : Prop} (x : q) (h : q → p := by
  intro x_
  repeat first
    | with_reducible apply w_seq
    | with_reducible apply w_block
    | with_reducible apply w_ret
    | with_reducible apply w_skip
    | with_reducible apply w_exit
    | with_reducible apply n_normal
    | with_reducible apply n_exit
    | with_reducible apply n_ret
    | with_reducible apply b_normal
    | with_reducible apply b_exit
    | with_reducible apply b_ret
    | (with_reducible apply b_other; decide)
    | with_reducible apply w_regD
    | with_reducible apply w_regL
    | (with_reducible refine ok_and (by kernel_rfl) ?_)
    | (with_reducible apply cond_t; (simp only [initH_t, initH_h, ev_tmp, ev_const, ev_global, ev_func, hall_at, Go.Ab.tt, Go.Ab.th, Go.Ab.ht, Go.Ab.hh, init_t, init_h, kn_tt, kn_th, kn_ht, kn_hh, kn_nil, List.getD_cons_zero, List.getD_cons_succ, Nat.reduceEqDiff, reduceIte] <;> done))
    | (with_reducible apply cond_f; (simp only [initH_t, initH_h, ev_tmp, ev_const, ev_global, ev_func, hall_at, Go.Ab.tt, Go.Ab.th, Go.Ab.ht, Go.Ab.hh, init_t, init_h, kn_tt, kn_th, kn_ht, kn_hh, kn_nil, List.getD_cons_zero, List.getD_cons_succ, Nat.reduceEqDiff, reduceIte] <;> done))
    | (simp (disch := first | omega | (simp only [List.length_append, List.length_cons, List.length_nil, List.length_take, List.length_drop, List.length_set, List.length_replicate]; omega)) only [a_nil, a_move, a_assign, a_pick, a_alloc, a_box, a_build, a_buildSlice, a_load, a_store, a_bin, a_un, a_conv, a_make, a_slice, a_fieldAddr, a_field, a_indexAddr, a_index, a_extract, a_len, a_append, a_copy, a_call, a_guard, a_then, av_some, g_yes, g_tf, g_ft, g_no, put, appH_nil, appH_one, abin, ibin, aun, aextract, bnd, Option.map_some, Option.map_none, beq_i, bne_i, tdv, tmd, fdv, wru32, wru64, wru8, IntKind.bits, Int.reduceToNat, min_l, Int.reducePow, Int.reduceMul, Int.reduceAdd, Int.reduceNeg, Int.reduceLT, Int.reduceLE, Int.reduceEq, Int.cast_ofNat_Int, dec_t, dec_f, ite_t, ite_f, get_i, apick_t, apick_f, wr_i64, emod_fit, take_all, List.take_take, Nat.min_self, ayield, ayv_b, ayv_u, Option.bind_some, List.map_cons, List.map_nil, List.getElem?_toArray, List.getElem?_cons_zero, List.getElem?_cons_succ, List.length_map, List.getElem?_drop, List.getElem?_map, Nat.mul_one, Nat.one_mul, Nat.zero_mul, Nat.zero_add, Nat.add_zero, Int.toNat_zero, Int.toNat_natCast, Int.toNat_one, tn1, tn2, tns1, sub_mid, AV.to, AV.toL, Nat.sub_self, getD_mid, set_mid, tnn2, tns, tn21, ndiv32, nmod32, cs2, sub21, sub22, or64, or64', Go.Ab.cs, decide_true, decide_false, Int.add_sub_cancel, Nat.sub_zero, List.drop_zero, Bool.false_eq_true, Bool.not_true, Bool.not_false, frz, frzL, List.map_nil, d_nil, d_none, d_some, h_call, h_move, h_assign, h_pick, h_alloc, h_box, h_build, h_buildSlice, h_load, h_store, h_bin, h_un, h_conv, h_make, h_slice, h_fieldAddr, h_field, h_indexAddr, h_index, h_extract, h_len, h_append, h_copy, d_then, dv_some, dg_yes, dg_tf, dg_ft, dg_no, siteB_some, siteB_none, tmpsOf_nil, tmpsOf_t, tmpsOf_c, tmpsOf_f, tmpsOf_g, hr_at, sitesB, rds, wr_some, wr_none, Op.operands, Call.operands, AV.fp, AV.fpL, guardOf, Option.toList_some, Array.toList_append, List.contains_cons, List.contains_nil, Nat.reduceBEq, Bool.or_false, Bool.or_true, Bool.true_or, Bool.false_or, beq_self_eq_true, initH_t, initH_h, ev_tmp, ev_const, ev_global, ev_func, hall_at, Go.Ab.tt, Go.Ab.th, Go.Ab.ht, Go.Ab.hh, init_t, init_h, kn_tt, kn_th, kn_ht, kn_hh, kn_nil, List.getD_cons_zero, List.getD_cons_succ, Nat.reduceEqDiff, reduceIte, List.flatten_cons, List.flatten_nil, anew, app_u, ← List.map_append, List.length_append, List.replicate_zero, ← rep_map, ← List.map_set, genOf_blk, all_u32, fz_u32, ← List.map_take, ← List.map_drop, List.length_take, List.length_drop, List.length_set, List.reduceReplicate, List.all_cons, List.all_nil, List.all_append, Bool.and_true, Bool.true_and, AV.one, oneV, AV.cellsA, setAt, List.set_cons_zero, List.set_cons_succ, List.length_cons, List.length_nil, Nat.reduceAdd, Nat.reduceLeDiff, Nat.reduceMul, Nat.reduceLT, Nat.reducePow, Nat.reduceSub, true_and, and_true, and_self, ne_eq, not_false_eq_true, afill, abuildN, zrow, List.headD_cons, fzn, AV.fz, Value.cells, alen, arow, List.length_replicate, List.cons_append, List.nil_append, List.append_nil, List.take_succ_cons, List.take_zero, List.drop_succ_cons, aload1, aloadN, acutN, astoreN, abuildSliceN, amakeN, afaN, afd1, afdN, aixN, aslcN, aslcS, aixS_at, alenN, alenS, aappN, acpyN, ln22, beql4, bs22, ap22, sc22v, sc22h, sc22n, fa50_0, ld4, fa50_1, ld22, al50, st50, ld50, bneq4, ln67, ix67, bs67, ap67, mk22, ix22, ld47, cv47_79, cv79_47, st47, cv3_82, sc9, ln9, cv21_47, ixs9, cv5_79, cv47_2, cv2_47, bd50, fa50_2, cv3_79, st22, cp22, cv47_5, bs98, ap98, ln98, ix98, ld5, sc98v, sc98h, sc98n, st5, al101, st101, ld3, cv5_47, cv5_3])
  with_reducible apply r_retO
  simp (disch := first | omega | (simp only [List.length_append, List.length_cons, List.length_nil, List.length_take, List.length_drop, List.length_set, List.length_replicate]; omega)) only [retv, ares, tupA, frz, frzL, ret_some, a_nil, a_move, a_assign, a_pick, a_alloc, a_box, a_build, a_buildSlice, a_load, a_store, a_bin, a_un, a_conv, a_make, a_slice, a_fieldAddr, a_field, a_indexAddr, a_index, a_extract, a_len, a_append, a_copy, a_call, a_guard, a_then, av_some, g_yes, g_tf, g_ft, g_no, put, appH_nil, appH_one, abin, ibin, aun, aextract, bnd, Option.map_some, Option.map_none, beq_i, bne_i, tdv, tmd, fdv, wru32, wru64, wru8, IntKind.bits, Int.reduceToNat, min_l, Int.reducePow, Int.reduceMul, Int.reduceAdd, Int.reduceNeg, Int.reduceLT, Int.reduceLE, Int.reduceEq, Int.cast_ofNat_Int, dec_t, dec_f, ite_t, ite_f, get_i, apick_t, apick_f, wr_i64, emod_fit, take_all, List.take_take, Nat.min_self, ayield, ayv_b, ayv_u, Option.bind_some, List.map_cons, List.map_nil, List.getElem?_toArray, List.getElem?_cons_zero, List.getElem?_cons_succ, List.length_map, List.getElem?_drop, List.getElem?_map, Nat.mul_one, Nat.one_mul, Nat.zero_mul, Nat.zero_add, Nat.add_zero, Int.toNat_zero, Int.toNat_natCast, Int.toNat_one, tn1, tn2, tns1, sub_mid, AV.to, AV.toL, Nat.sub_self, getD_mid, set_mid, tnn2, tns, tn21, ndiv32, nmod32, cs2, sub21, sub22, or64, or64', Go.Ab.cs, decide_true, decide_false, Int.add_sub_cancel, Nat.sub_zero, List.drop_zero, Bool.false_eq_true, Bool.not_true, Bool.not_false, frz, frzL, List.map_nil, initH_t, initH_h, ev_tmp, ev_const, ev_global, ev_func, hall_at, Go.Ab.tt, Go.Ab.th, Go.Ab.ht, Go.Ab.hh, init_t, init_h, kn_tt, kn_th, kn_ht, kn_hh, kn_nil, List.getD_cons_zero, List.getD_cons_succ, Nat.reduceEqDiff, reduceIte, List.flatten_cons, List.flatten_nil, anew, app_u, ← List.map_append, List.length_append, List.replicate_zero, ← rep_map, ← List.map_set, genOf_blk, all_u32, fz_u32, ← List.map_take, ← List.map_drop, List.length_take, List.length_drop, List.length_set, List.reduceReplicate, List.all_cons, List.all_nil, List.all_append, Bool.and_true, Bool.true_and, AV.one, oneV, AV.cellsA, setAt, List.set_cons_zero, List.set_cons_succ, List.length_cons, List.length_nil, Nat.reduceAdd, Nat.reduceLeDiff, Nat.reduceMul, Nat.reduceLT, Nat.reducePow, Nat.reduceSub, true_and, and_true, and_self, ne_eq, not_false_eq_true, afill, abuildN, zrow, List.headD_cons, fzn, AV.fz, Value.cells, alen, arow, List.length_replicate, List.cons_append, List.nil_append, List.append_nil, List.take_succ_cons, List.take_zero, List.drop_succ_cons, aload1, aloadN, acutN, astoreN, abuildSliceN, amakeN, afaN, afd1, afdN, aixN, aslcN, aslcS, aixS_at, alenN, alenS, aappN, acpyN, ln22, beql4, bs22, ap22, sc22v, sc22h, sc22n, fa50_0, ld4, fa50_1, ld22, al50, st50, ld50, bneq4, ln67, ix67, bs67, ap67, mk22, ix22, ld47, cv47_79, cv79_47, st47, cv3_82, sc9, ln9, cv21_47, ixs9, cv5_79, cv47_2, cv2_47, bd50, fa50_2, cv3_79, st22, cp22, cv47_5, bs98, ap98, ln98, ix98, ld5, sc98v, sc98h, sc98n, st5, al101, st101, ld3, cv5_47, cv5_3, Try.results3, Try.results4, Try.results5, Try.results6, Try.results7, Try.results8, Try.results9, Try.results10, Try.results11, Try.results12, Try.results13, Try.results14, Try.results15, Try.results16, Try.results17, Try.results18, Try.results19, Try.results20, Try.results21, Try.results22, Try.results23, Try.results24, Try.results25, Try.results26, Try.results27, Try.results28, Try.results29, Try.results30, Try.results31, Try.results32, Try.results33, Try.results34, Try.results35, Try.results36, Try.results37, Try.results38, Try.results39, Try.results40, Try.results41, Try.results42, Try.results43, Try.results44, Try.results45, Try.results46, Try.results47, Try.results48, Try.results49, Try.results50, Try.results51, Try.results52, Try.results53, Try.results54, Try.results55, Try.results56, Try.results57, Try.results58, Try.results59, Try.results60, Try.results61, Try.results62, Try.results63, Try.results64, Try.results65, Try.results66, Try.results67, Try.results68, Try.results69, Try.results70, Try.results71, Try.results72, Try.results73, Try.results74, Try.results75, Try.results76, Try.results77, Try.results78, Try.results79, Try.results80, Try.results81, Try.results82, Try.results83, Try.results84, Try.results85, Try.results86, Try.results87, Try.results88, Try.results89, Try.results90, Try.results91, Try.results92, Try.results93, Try.results94, Try.results95, Try.results96, Try.results97, Try.results98, Try.results99, Try.results100, Try.results101, Try.results102, Try.results103, Try.results104, Try.results105, Try.results106, Try.results107, Try.results108, Try.results109, Try.results110, Try.results111, Try.results112, Try.results113, Try.results114, Try.results115, Try.results116, retvO, retO_some, AV.to, AV.toL, frzHL, frzH, AV.keep, AV.keepL, List.contains_nil, List.nil_append, true_and, and_true, BEq.rfl]
  exact x_) : p := h x
theorem TB {p q : Prop} (x : q) (h : q → p := by
  intro x_
  repeat first
    | with_reducible apply w_seq_r
    | with_reducible apply w_seq_c
    | with_reducible apply w_seq_s
    | with_reducible apply w_seq_k
    | with_reducible apply w_block
    | with_reducible apply w_ret
    | with_reducible apply w_skip
    | with_reducible apply w_exit
    | with_reducible apply n_normal
    | with_reducible apply n_exit
    | with_reducible apply n_ret
    | with_reducible apply b_normal
    | with_reducible apply b_exit
    | with_reducible apply b_ret
    | (with_reducible apply b_other; decide)
    | with_reducible apply w_regD
    | with_reducible apply w_regL
    | (with_reducible refine ok_and (by kernel_rfl) ?_)
    | (with_reducible apply cond_t; (simp only [initH_t, initH_h, ev_tmp, ev_const, ev_global, ev_func, hall_at, Go.Ab.tt, Go.Ab.th, Go.Ab.ht, Go.Ab.hh, init_t, init_h, kn_tt, kn_th, kn_ht, kn_hh, kn_nil, List.getD_cons_zero, List.getD_cons_succ, Nat.reduceEqDiff, reduceIte] <;> done))
    | (with_reducible apply cond_f; (simp only [initH_t, initH_h, ev_tmp, ev_const, ev_global, ev_func, hall_at, Go.Ab.tt, Go.Ab.th, Go.Ab.ht, Go.Ab.hh, init_t, init_h, kn_tt, kn_th, kn_ht, kn_hh, kn_nil, List.getD_cons_zero, List.getD_cons_succ, Nat.reduceEqDiff, reduceIte] <;> done))
    | (simp (disch := first | omega | (simp only [List.length_append, List.length_cons, List.length_nil, List.length_take, List.length_drop, List.length_set, List.length_replicate]; omega)) only [a_nil, a_move, a_assign, a_pick, a_alloc, a_box, a_build, a_buildSlice, a_load, a_store, a_bin, a_un, a_conv, a_make, a_slice, a_fieldAddr, a_field, a_indexAddr, a_index, a_extract, a_len, a_append, a_copy, a_call, a_guard, a_then, av_some, g_yes, g_tf, g_ft, g_no, put, appH_nil, appH_one, abin, ibin, aun, aextract, bnd, Option.map_some, Option.map_none, beq_i, bne_i, tdv, tmd, fdv, wru32, wru64, wru8, IntKind.bits, Int.reduceToNat, min_l, Int.reducePow, Int.reduceMul, Int.reduceAdd, Int.reduceNeg, Int.reduceLT, Int.reduceLE, Int.reduceEq, Int.cast_ofNat_Int, dec_t, dec_f, ite_t, ite_f, get_i, apick_t, apick_f, wr_i64, emod_fit, take_all, List.take_take, Nat.min_self, ayield, ayv_b, ayv_u, Option.bind_some, List.map_cons, List.map_nil, List.getElem?_toArray, List.getElem?_cons_zero, List.getElem?_cons_succ, List.length_map, List.getElem?_drop, List.getElem?_map, Nat.mul_one, Nat.one_mul, Nat.zero_mul, Nat.zero_add, Nat.add_zero, Int.toNat_zero, Int.toNat_natCast, Int.toNat_one, tn1, tn2, tns1, sub_mid, AV.to, AV.toL, Nat.sub_self, getD_mid, set_mid, tnn2, tns, tn21, ndiv32, nmod32, cs2, sub21, sub22, or64, or64', Go.Ab.cs, decide_true, decide_false, Int.add_sub_cancel, Nat.sub_zero, List.drop_zero, Bool.false_eq_true, Bool.not_true, Bool.not_false, frz, frzL, List.map_nil, d_nil, d_none, d_some, h_call, h_move, h_assign, h_pick, h_alloc, h_box, h_build, h_buildSlice, h_load, h_store, h_bin, h_un, h_conv, h_make, h_slice, h_fieldAddr, h_field, h_indexAddr, h_index, h_extract, h_len, h_append, h_copy, d_then, dv_some, dg_yes, dg_tf, dg_ft, dg_no, siteB_some, siteB_none, tmpsOf_nil, tmpsOf_t, tmpsOf_c, tmpsOf_f, tmpsOf_g, hr_at, sitesB, rds, wr_some, wr_none, Op.operands, Call.operands, AV.fp, AV.fpL, guardOf, Option.toList_some, Array.toList_append, List.contains_cons, List.contains_nil, Nat.reduceBEq, Bool.or_false, Bool.or_true, Bool.true_or, Bool.false_or, beq_self_eq_true, initH_t, initH_h, ev_tmp, ev_const, ev_global, ev_func, hall_at, Go.Ab.tt, Go.Ab.th, Go.Ab.ht, Go.Ab.hh, init_t, init_h, kn_tt, kn_th, kn_ht, kn_hh, kn_nil, List.getD_cons_zero, List.getD_cons_succ, Nat.reduceEqDiff, reduceIte, List.flatten_cons, List.flatten_nil, anew, app_u, ← List.map_append, List.length_append, List.replicate_zero, ← rep_map, ← List.map_set, genOf_blk, all_u32, fz_u32, ← List.map_take, ← List.map_drop, List.length_take, List.length_drop, List.length_set, List.reduceReplicate, List.all_cons, List.all_nil, List.all_append, Bool.and_true, Bool.true_and, AV.one, oneV, AV.cellsA, setAt, List.set_cons_zero, List.set_cons_succ, List.length_cons, List.length_nil, Nat.reduceAdd, Nat.reduceLeDiff, Nat.reduceMul, Nat.reduceLT, Nat.reducePow, Nat.reduceSub, true_and, and_true, and_self, ne_eq, not_false_eq_true, afill, abuildN, zrow, List.headD_cons, fzn, AV.fz, Value.cells, alen, arow, List.length_replicate, List.cons_append, List.nil_append, List.append_nil, List.take_succ_cons, List.take_zero, List.drop_succ_cons, aload1, aloadN, acutN, astoreN, abuildSliceN, amakeN, afaN, afd1, afdN, aixN, aslcN, aslcS, aixS_at, alenN, alenS, aappN, acpyN, ln22, beql4, bs22, ap22, sc22v, sc22h, sc22n, fa50_0, ld4, fa50_1, ld22, al50, st50, ld50, bneq4, ln67, ix67, bs67, ap67, mk22, ix22, ld47, cv47_79, cv79_47, st47, cv3_82, sc9, ln9, cv21_47, ixs9, cv5_79, cv47_2, cv2_47, bd50, fa50_2, cv3_79, st22, cp22, cv47_5, bs98, ap98, ln98, ix98, ld5, sc98v, sc98h, sc98n, st5, al101, st101, ld3, cv5_47, cv5_3])
  exact x_) : p := h x
theorem S1 {p q : Prop} (x : q) (h : q → p := by
  intro x_
  with_reducible apply w_regD
  simp (disch := first | omega | (simp only [List.length_append, List.length_cons, List.length_nil, List.length_take, List.length_drop, List.length_set, List.length_replicate]; omega)) only [a_nil, a_move, a_assign, a_pick, a_alloc, a_box, a_build, a_buildSlice, a_load, a_store, a_bin, a_un, a_conv, a_make, a_slice, a_fieldAddr, a_field, a_indexAddr, a_index, a_extract, a_len, a_append, a_copy, a_call, a_guard, a_then, av_some, g_yes, g_tf, g_ft, g_no, put, appH_nil, appH_one, abin, ibin, aun, aextract, bnd, Option.map_some, Option.map_none, beq_i, bne_i, tdv, tmd, fdv, wru32, wru64, wru8, IntKind.bits, Int.reduceToNat, min_l, Int.reducePow, Int.reduceMul, Int.reduceAdd, Int.reduceNeg, Int.reduceLT, Int.reduceLE, Int.reduceEq, Int.cast_ofNat_Int, dec_t, dec_f, ite_t, ite_f, get_i, apick_t, apick_f, wr_i64, emod_fit, take_all, List.take_take, Nat.min_self, ayield, ayv_b, ayv_u, Option.bind_some, List.map_cons, List.map_nil, List.getElem?_toArray, List.getElem?_cons_zero, List.getElem?_cons_succ, List.length_map, List.getElem?_drop, List.getElem?_map, Nat.mul_one, Nat.one_mul, Nat.zero_mul, Nat.zero_add, Nat.add_zero, Int.toNat_zero, Int.toNat_natCast, Int.toNat_one, tn1, tn2, tns1, sub_mid, AV.to, AV.toL, Nat.sub_self, getD_mid, set_mid, tnn2, tns, tn21, ndiv32, nmod32, cs2, sub21, sub22, or64, or64', Go.Ab.cs, decide_true, decide_false, Int.add_sub_cancel, Nat.sub_zero, List.drop_zero, Bool.false_eq_true, Bool.not_true, Bool.not_false, frz, frzL, List.map_nil, initH_t, initH_h, ev_tmp, ev_const, ev_global, ev_func, hall_at, Go.Ab.tt, Go.Ab.th, Go.Ab.ht, Go.Ab.hh, init_t, init_h, kn_tt, kn_th, kn_ht, kn_hh, kn_nil, List.getD_cons_zero, List.getD_cons_succ, Nat.reduceEqDiff, reduceIte, List.flatten_cons, List.flatten_nil, anew, app_u, ← List.map_append, List.length_append, List.replicate_zero, ← rep_map, ← List.map_set, genOf_blk, all_u32, fz_u32, ← List.map_take, ← List.map_drop, List.length_take, List.length_drop, List.length_set, List.reduceReplicate, List.all_cons, List.all_nil, List.all_append, Bool.and_true, Bool.true_and, AV.one, oneV, AV.cellsA, setAt, List.set_cons_zero, List.set_cons_succ, List.length_cons, List.length_nil, Nat.reduceAdd, Nat.reduceLeDiff, Nat.reduceMul, Nat.reduceLT, Nat.reducePow, Nat.reduceSub, true_and, and_true, and_self, ne_eq, not_false_eq_true, afill, abuildN, zrow, List.headD_cons, fzn, AV.fz, Value.cells, alen, arow, List.length_replicate, List.cons_append, List.nil_append, List.append_nil, List.take_succ_cons, List.take_zero, List.drop_succ_cons, aload1, aloadN, acutN, astoreN, abuildSliceN, amakeN, afaN, afd1, afdN, aixN, aslcN, aslcS, aixS_at, alenN, alenS, aappN, acpyN, ln22, beql4, bs22, ap22, sc22v, sc22h, sc22n, fa50_0, ld4, fa50_1, ld22, al50, st50, ld50, bneq4, ln67, ix67, bs67, ap67, mk22, ix22, ld47, cv47_79, cv79_47, st47, cv3_82, sc9, ln9, cv21_47, ixs9, cv5_79, cv47_2, cv2_47, bd50, fa50_2, cv3_79, st22, cp22, cv47_5, bs98, ap98, ln98, ix98, ld5, sc98v, sc98h, sc98n, st5, al101, st101, ld3, cv5_47, cv5_3]
  with_reducible apply n_normal
  exact x_) : p := h x
example : True ∧ True := by simp (disch := first | omega | (simp only [List.length_append, List.length_cons, List.length_nil, List.length_take, List.length_drop, List.length_set, List.length_replicate]; omega)) only [a_nil, a_move, a_assign, a_pick, a_alloc, a_box, a_build, a_buildSlice, a_load, a_store, a_bin, a_un, a_conv, a_make, a_slice, a_fieldAddr, a_field, a_indexAddr, a_index, a_extract, a_len, a_append, a_copy, a_call, a_guard, a_then, av_some, g_yes, g_tf, g_ft, g_no, put, appH_nil, appH_one, abin, ibin, aun, aextract, bnd, Option.map_some, Option.map_none, beq_i, bne_i, tdv, tmd, fdv, wru32, wru64, wru8, IntKind.bits, Int.reduceToNat, min_l, Int.reducePow, Int.reduceMul, Int.reduceAdd, Int.reduceNeg, Int.reduceLT, Int.reduceLE, Int.reduceEq, Int.cast_ofNat_Int, dec_t, dec_f, ite_t, ite_f, get_i, apick_t, apick_f, wr_i64, emod_fit, take_all, List.take_take, Nat.min_self, ayield, ayv_b, ayv_u, Option.bind_some, List.map_cons, List.map_nil, List.getElem?_toArray, List.getElem?_cons_zero, List.getElem?_cons_succ, List.length_map, List.getElem?_drop, List.getElem?_map, Nat.mul_one, Nat.one_mul, Nat.zero_mul, Nat.zero_add, Nat.add_zero, Int.toNat_zero, Int.toNat_natCast, Int.toNat_one, tn1, tn2, tns1, sub_mid, AV.to, AV.toL, Nat.sub_self, getD_mid, set_mid, tnn2, tns, tn21, ndiv32, nmod32, cs2, sub21, sub22, or64, or64', Go.Ab.cs, decide_true, decide_false, Int.add_sub_cancel, Nat.sub_zero, List.drop_zero, Bool.false_eq_true, Bool.not_true, Bool.not_false, frz, frzL, List.map_nil, d_nil, d_none, d_some, h_call, h_move, h_assign, h_pick, h_alloc, h_box, h_build, h_buildSlice, h_load, h_store, h_bin, h_un, h_conv, h_make, h_slice, h_fieldAddr, h_field, h_indexAddr, h_index, h_extract, h_len, h_append, h_copy, d_then, dv_some, dg_yes, dg_tf, dg_ft, dg_no, siteB_some, siteB_none, tmpsOf_nil, tmpsOf_t, tmpsOf_c, tmpsOf_f, tmpsOf_g, hr_at, sitesB, rds, wr_some, wr_none, Op.operands, Call.operands, AV.fp, AV.fpL, guardOf, Option.toList_some, Array.toList_append, List.contains_cons, List.contains_nil, Nat.reduceBEq, Bool.or_false, Bool.or_true, Bool.true_or, Bool.false_or, beq_self_eq_true, initH_t, initH_h, ev_tmp, ev_const, ev_global, ev_func, hall_at, Go.Ab.tt, Go.Ab.th, Go.Ab.ht, Go.Ab.hh, init_t, init_h, kn_tt, kn_th, kn_ht, kn_hh, kn_nil, List.getD_cons_zero, List.getD_cons_succ, Nat.reduceEqDiff, reduceIte, List.flatten_cons, List.flatten_nil, anew, app_u, ← List.map_append, List.length_append, List.replicate_zero, ← rep_map, ← List.map_set, genOf_blk, all_u32, fz_u32, ← List.map_take, ← List.map_drop, List.length_take, List.length_drop, List.length_set, List.reduceReplicate, List.all_cons, List.all_nil, List.all_append, Bool.and_true, Bool.true_and, AV.one, oneV, AV.cellsA, setAt, List.set_cons_zero, List.set_cons_succ, List.length_cons, List.length_nil, Nat.reduceAdd, Nat.reduceLeDiff, Nat.reduceMul, Nat.reduceLT, Nat.reducePow, Nat.reduceSub, true_and, and_true, and_self, ne_eq, not_false_eq_true, afill, abuildN, zrow, List.headD_cons, fzn, AV.fz, Value.cells, alen, arow, List.length_replicate, List.cons_append, List.nil_append, List.append_nil, List.take_succ_cons, List.take_zero, List.drop_succ_cons, aload1, aloadN, acutN, astoreN, abuildSliceN, amakeN, afaN, afd1, afdN, aixN, aslcN, aslcS, aixS_at, alenN, alenS, aappN, acpyN, ln22, beql4, bs22, ap22, sc22v, sc22h, sc22n, fa50_0, ld4, fa50_1, ld22, al50, st50, ld50, bneq4, ln67, ix67, bs67, ap67, mk22, ix22, ld47, cv47_79, cv79_47, st47, cv3_82, sc9, ln9, cv21_47, ixs9, cv5_79, cv47_2, cv2_47, bd50, fa50_2, cv3_79, st22, cp22, cv47_5, bs98, ap98, ln98, ix98, ld5, sc98v, sc98h, sc98n, st5, al101, st101, ld3, cv5_47, cv5_3]
theorem Hv {p : Prop} (h : p := by simp (disch := first | omega | (simp only [List.length_append, List.length_cons, List.length_nil, List.length_take, List.length_drop, List.length_set, List.length_replicate]; omega)) only [Has, initH_t, initH_h, ev_tmp, ev_const, ev_global, ev_func, hall_at, Go.Ab.tt, Go.Ab.th, Go.Ab.ht, Go.Ab.hh, init_t, init_h, kn_tt, kn_th, kn_ht, kn_hh, kn_nil, List.getD_cons_zero, List.getD_cons_succ, Nat.reduceEqDiff, reduceIte, czero, Go.Ab.cs, List.map_nil, true_and, and_true, and_self, frzHL, frzH, frz, reduceIte, List.nil_append]) : p := h
theorem H {p q : Prop} (x : q) (h : q → p := by intro x_; simp (disch := first | omega | (simp only [List.length_append, List.length_cons, List.length_nil, List.length_take, List.length_drop, List.length_set, List.length_replicate]; omega)) only [Has, initH_t, initH_h, ev_tmp, ev_const, ev_global, ev_func, hall_at, Go.Ab.tt, Go.Ab.th, Go.Ab.ht, Go.Ab.hh, init_t, init_h, kn_tt, kn_th, kn_ht, kn_hh, kn_nil, List.getD_cons_zero, List.getD_cons_succ, Nat.reduceEqDiff, reduceIte, czero, Go.Ab.cs, List.map_nil, true_and, and_true, and_self]; exact x_) : p := h x
theorem R {p q : Prop} (x : q) (h : q → p := by intro x_; simp (disch := first | omega | (simp only [List.length_append, List.length_cons, List.length_nil, List.length_take, List.length_drop, List.length_set, List.length_replicate]; omega)) only [retv, ares, tupA, frz, frzL, ret_some, a_nil, a_move, a_assign, a_pick, a_alloc, a_box, a_build, a_buildSlice, a_load, a_store, a_bin, a_un, a_conv, a_make, a_slice, a_fieldAddr, a_field, a_indexAddr, a_index, a_extract, a_len, a_append, a_copy, a_call, a_guard, a_then, av_some, g_yes, g_tf, g_ft, g_no, put, appH_nil, appH_one, abin, ibin, aun, aextract, bnd, Option.map_some, Option.map_none, beq_i, bne_i, tdv, tmd, fdv, wru32, wru64, wru8, IntKind.bits, Int.reduceToNat, min_l, Int.reducePow, Int.reduceMul, Int.reduceAdd, Int.reduceNeg, Int.reduceLT, Int.reduceLE, Int.reduceEq, Int.cast_ofNat_Int, dec_t, dec_f, ite_t, ite_f, get_i, apick_t, apick_f, wr_i64, emod_fit, take_all, List.take_take, Nat.min_self, ayield, ayv_b, ayv_u, Option.bind_some, List.map_cons, List.map_nil, List.getElem?_toArray, List.getElem?_cons_zero, List.getElem?_cons_succ, List.length_map, List.getElem?_drop, List.getElem?_map, Nat.mul_one, Nat.one_mul, Nat.zero_mul, Nat.zero_add, Nat.add_zero, Int.toNat_zero, Int.toNat_natCast, Int.toNat_one, tn1, tn2, tns1, sub_mid, AV.to, AV.toL, Nat.sub_self, getD_mid, set_mid, tnn2, tns, tn21, ndiv32, nmod32, cs2, sub21, sub22, or64, or64', Go.Ab.cs, decide_true, decide_false, Int.add_sub_cancel, Nat.sub_zero, List.drop_zero, Bool.false_eq_true, Bool.not_true, Bool.not_false, frz, frzL, List.map_nil, initH_t, initH_h, ev_tmp, ev_const, ev_global, ev_func, hall_at, Go.Ab.tt, Go.Ab.th, Go.Ab.ht, Go.Ab.hh, init_t, init_h, kn_tt, kn_th, kn_ht, kn_hh, kn_nil, List.getD_cons_zero, List.getD_cons_succ, Nat.reduceEqDiff, reduceIte, List.flatten_cons, List.flatten_nil, anew, app_u, ← List.map_append, List.length_append, List.replicate_zero, ← rep_map, ← List.map_set, genOf_blk, all_u32, fz_u32, ← List.map_take, ← List.map_drop, List.length_take, List.length_drop, List.length_set, List.reduceReplicate, List.all_cons, List.all_nil, List.all_append, Bool.and_true, Bool.true_and, AV.one, oneV, AV.cellsA, setAt, List.set_cons_zero, List.set_cons_succ, List.length_cons, List.length_nil, Nat.reduceAdd, Nat.reduceLeDiff, Nat.reduceMul, Nat.reduceLT, Nat.reducePow, Nat.reduceSub, true_and, and_true, and_self, ne_eq, not_false_eq_true, afill, abuildN, zrow, List.headD_cons, fzn, AV.fz, Value.cells, alen, arow, List.length_replicate, List.cons_append, List.nil_append, List.append_nil, List.take_succ_cons, List.take_zero, List.drop_succ_cons, aload1, aloadN, acutN, astoreN, abuildSliceN, amakeN, afaN, afd1, afdN, aixN, aslcN, aslcS, aixS_at, alenN, alenS, aappN, acpyN, ln22, beql4, bs22, ap22, sc22v, sc22h, sc22n, fa50_0, ld4, fa50_1, ld22, al50, st50, ld50, bneq4, ln67, ix67, bs67, ap67, mk22, ix22, ld47, cv47_79, cv79_47, st47, cv3_82, sc9, ln9, cv21_47, ixs9, cv5_79, cv47_2, cv2_47, bd50, fa50_2, cv3_79, st22, cp22, cv47_5, bs98, ap98, ln98, ix98, ld5, sc98v, sc98h, sc98n, st5, al101, st101, ld3, cv5_47, cv5_3, Try.results3, Try.results4, Try.results5, Try.results6, Try.results7, Try.results8, Try.results9, Try.results10, Try.results11, Try.results12, Try.results13, Try.results14, Try.results15, Try.results16, Try.results17, Try.results18, Try.results19, Try.results20, Try.results21, Try.results22, Try.results23, Try.results24, Try.results25, Try.results26, Try.results27, Try.results28, Try.results29, Try.results30, Try.results31, Try.results32, Try.results33, Try.results34, Try.results35, Try.results36, Try.results37, Try.results38, Try.results39, Try.results40, Try.results41, Try.results42, Try.results43, Try.results44, Try.results45, Try.results46, Try.results47, Try.results48, Try.results49, Try.results50, Try.results51, Try.results52, Try.results53, Try.results54, Try.results55, Try.results56, Try.results57, Try.results58, Try.results59, Try.results60, Try.results61, Try.results62, Try.results63, Try.results64, Try.results65, Try.results66, Try.results67, Try.results68, Try.results69, Try.results70, Try.results71, Try.results72, Try.results73, Try.results74, Try.results75, Try.results76, Try.results77, Try.results78, Try.results79, Try.results80, Try.results81, Try.results82, Try.results83, Try.results84, Try.results85, Try.results86, Try.results87, Try.results88, Try.results89, Try.results90, Try.results91, Try.results92, Try.results93, Try.results94, Try.results95, Try.results96, Try.results97, Try.results98, Try.results99, Try.results100, Try.results101, Try.results102, Try.results103, Try.results104, Try.results105, Try.results106, Try.results107, Try.results108, Try.results109, Try.results110, Try.results111, Try.results112, Try.results113, Try.results114, Try.results115, Try.results116]; exact x_) : p := h x
end Go.Ab
end
section
namespace Go.Ab
open Go Go.Proofs Go.Proofs.Ytgffficaoioljaa.Pl
set_option maxRecDepth 100000
theorem getD_lt {l : List Int} {n : Nat} (h : n < l.length) : l.getD n 0 = l[n] := by simp [List.getD_eq_getElem?_getD, h]
theorem trim_take_zero {l : List Int} {n : Nat} (h : n < l.length) (h0 : l.getD n 0 = 0) : trim (l.take (n + 1)) = trim (l.take n) := by
  rw [List.take_succ_eq_append_getElem h, ← getD_lt h, h0, trim_zero]
theorem trim_take_ne {l : List Int} {n : Nat} (h : n < l.length) (h0 : l.getD n 0 ≠ 0) : trim (l.take (n + 1)) = l.take (n + 1) := by
  rw [List.take_succ_eq_append_getElem h, ← getD_lt h, trim_snoc _ _ h0]
theorem U_eq {l m : List Int} {n : Nat} {xs : List AV} (h : l = m) (hn : n = l.length) (hx : xs = l.map u32) : AV.vs n xs = U m := by subst h hn hx; rfl
theorem s_cut (l : List Int) (hl : l.length ≤ 4611686018427387904) : Spec Try.prog 108 [U l] (U (trim l)) := by
  refine spec_of_awp mixed Try.func108 rfl Try.call108 (by kernel_rfl) (by simp) rfl ?_
  refine T (w_loop (α := Nat) (fun n => [(.t 0, U l), (.t 3, .sc (.int .i64 n))]) (fun n => n ≤ l.length ∧ trim (l.take n) = trim l) id l.length ⟨Nat.le_refl _, by simp⟩ ?_ ?_)
  · exact Hv
  rintro n r ⟨hn, ht⟩ J hJ
  rcases n with _ | n
  · refine T (r_ret ?_)
    rw [Try.results108]
    refine R (wk_eq ?_)
    exact U_eq ht (by simp [trim]) (by simp [trim])
  · by_cases h0 : l.getD n 0 = 0
    · refine T ?_
      exact hJ _ n (Nat.lt_succ_self _) ⟨by omega, by rw [← ht, trim_take_zero hn h0]⟩ Hv
    · refine T (r_ret ?_)
      rw [Try.results108]
      refine R (wk_eq ?_)
      rw [trim_take_ne hn h0] at ht
      exact U_eq ht (by simp; omega) (by simp)
theorem s_Trim (l : List Int) (hl : l.length ≤ 35184372088832) : Spec Try.prog 90 [U l] (U (trim l)) := by
  refine spec_of_awp mixed Try.func90 rfl Try.call90 (by kernel_rfl) (by simp) rfl ?_
  refine T (w_loop (α := Nat) (fun n => [(.t 0, U l), (.t 3, .sc (.int .i64 n))]) (fun n => n ≤ l.length ∧ trim (l.take n) = trim l) id l.length ⟨Nat.le_refl _, by simp⟩ ?_ ?_)
  · exact Hv
  rintro n r ⟨hn, ht⟩ J hJ
  rcases n with _ | n
  · refine T (r_ret ?_)
    rw [Try.results90]
    refine R ?_
    rw [← ht]
    exact Wk.nil
  · by_cases h0 : l.getD n 0 = 0
    · refine T ?_
      exact hJ _ n (Nat.lt_succ_self _) ⟨by omega, by rw [← ht, trim_take_zero hn h0]⟩ Hv
    · refine T (r_ret ?_)
      rw [Try.results90]
      refine R (wk_eq ?_)
      rw [trim_take_ne hn h0] at ht
      exact U_eq ht (by simp; omega) (by simp)
theorem s_Add32 (x y c : Int) (hx : 0 ≤ x) (hx' : x < 4294967296) (hy : 0 ≤ y) (hy' : y < 4294967296) (hc : 0 ≤ c) (hc' : c < 2) : Spec Try.prog 115 [u32 x, u32 y, u32 c] (.tup [u32 ((x + y + c) % 4294967296), u32 ((x + y + c) / 4294967296)]) := by
  refine spec_of_awp mixed Try.func115 rfl Try.call115 (by kernel_rfl) (by simp) rfl ?_
  refine T (r_ret ?_)
  rw [Try.results115]
  exact R (wk_eq rfl)
end Go.Ab
end
section
namespace Go.Ab
open Go Go.Proofs Go.Proofs.Ytgffficaoioljaa.Pl
set_option maxRecDepth 100000
set_option maxHeartbeats 4000000
theorem getD_wf {l : List Int} (h : Wf l) {n : Nat} (hn : n < l.length) : 0 ≤ l.getD n 0 ∧ l.getD n 0 < 4294967296 := by
  rw [getD_lt hn]; exact h _ (List.getElem_mem hn)
theorem take_snoc {l : List Int} {n : Nat} (h : n < l.length) : l.take (n + 1) = l.take n ++ [l.getD n 0] := by
  rw [List.take_succ_eq_append_getElem h, getD_lt h]
theorem val_take_snoc {l : List Int} {n : Nat} (h : n < l.length) : val (l.take (n + 1)) = val (l.take n) + 4294967296 ^ n * l.getD n 0 := by
  rw [take_snoc h, val_snoc, List.length_take, Nat.min_eq_left (by omega)]
theorem add_step {A B O P x y c q m : Int} (h : A + B = O + P * c) (e : x + y + c = q * 4294967296 + m) : (A + P * x) + (B + P * y) = (O + P * m) + P * 4294967296 * q := by
  have : P * (x + y + c) = P * (q * 4294967296 + m) := by rw [e]
  grind
theorem s_Add (a b : List Int) (ha : Wf a) (hb : Wf b) (la : a.length ≤ 1000000000) (lb : b.length ≤ 1000000000) : Spec Try.prog 93 [U a, U b] (U (N (val a + val b))) := by
  refine spec_of_awp mixed Try.func93 rfl Try.call93 (by kernel_rfl) (by simp) rfl ?_
  refine w_seq (S1 ?_)
  refine w_cut (α := List Int × List Int) (fun p => [(.t 0, U p.1), (.t 1, U p.2), (.h 20, .blk 0 0 [])]) (fun p => Wf p.1 ∧ Wf p.2 ∧ p.1.length ≤ 1000000000 ∧ p.2.length ≤ p.1.length ∧ val p.1 + val p.2 = val a + val b) ?_ ?_
  · intro J hJ
    by_cases h : a.length < b.length
    · refine T ?_
      exact hJ _ (b, a) ⟨hb, ha, lb, by show a.length ≤ b.length; omega, Int.add_comm _ _⟩ Hv
    · refine T ?_
      exact hJ _ (a, b) ⟨ha, hb, la, by show b.length ≤ a.length; omega, rfl⟩ Hv
  rintro ⟨x, y⟩ r ⟨hx, hy, lx, h, hv⟩
  simp only at hx hy lx h hv
  refine T (w_loop (α := Nat × Nat × Int × List Int) (fun p => [(.t 0, U x), (.t 1, U y), (.t 5, .hs 20 p.2.1 0 p.1 1), (.t 6, u32 p.2.2.1), (.t 22, .sc (.int .i64 x.length)), (.t 23, .sc (.int .i64 p.1)), (.h 20, .blk p.2.1 2 (p.2.2.2.map u32))])
    (fun p => p.1 ≤ x.length ∧ p.2.2.2.length = p.1 ∧ Wf p.2.2.2 ∧ 0 ≤ p.2.2.1 ∧ p.2.2.1 < 2 ∧ val (x.take p.1) + val (y.take p.1) = val p.2.2.2 + 4294967296 ^ p.1 * p.2.2.1)
    (fun p => x.length - p.1) (0, 1, 0, []) ⟨Nat.zero_le _, rfl, Wf.nil, by decide, by decide, by simp [val]⟩ ?_ ?_)
  · exact Hv
  rintro ⟨i, g, c, o⟩ r ⟨h1, h2, h3, h4, h5, h6⟩ J hJ
  simp only at h1 h2 h3 h4 h5 h6
  have H6 := Hd.mk h6
  clear h6
  by_cases hi : i < x.length
  · have hai := getD_wf hx hi
    have fin : ∀ z : Int, 0 ≤ z → z < 4294967296 → val (y.take (i + 1)) = val (y.take i) + 4294967296 ^ i * z →
        val (x.take (i + 1)) + val (y.take (i + 1)) = val (o ++ [(x.getD i 0 + z + c) % 4294967296]) + 4294967296 ^ (i + 1) * ((x.getD i 0 + z + c) / 4294967296) := by
      intro z _ _ hy
      rw [val_take_snoc hi, hy, val_snoc, h2, Int.pow_succ]
      exact add_step H6.out (by have := Int.mul_ediv_add_emod (x.getD i 0 + z + c) 4294967296; omega)
    by_cases hyi : i < y.length
    · have hyi' := getD_wf hy hyi
      refine T (call_by (s_Add32 _ _ _ hai.1 hai.2 hyi'.1 hyi'.2 h4 h5) ?_)
      refine T ?_
      refine hJ _ (i + 1, g + 1, (x.getD i 0 + y.getD i 0 + c) / 4294967296, o ++ [(x.getD i 0 + y.getD i 0 + c) % 4294967296]) ?_ ⟨?_, ?_, ?_, ?_, ?_, ?_⟩ ?_
      · show x.length - (i + 1) < x.length - i; omega
      · exact hi
      · simp [h2]
      · exact Wf.append h3 (Wf.one (by omega) (by omega))
      · show 0 ≤ _ / _; omega
      · show _ / _ < 2; omega
      · exact fin _ hyi'.1 hyi'.2 (val_take_snoc hyi)
      · exact Hv
    · refine T (call_by (s_Add32 _ 0 _ hai.1 hai.2 (by decide) (by decide) h4 h5) ?_)
      refine T ?_
      refine hJ _ (i + 1, g + 1, (x.getD i 0 + 0 + c) / 4294967296, o ++ [(x.getD i 0 + 0 + c) % 4294967296]) ?_ ⟨?_, ?_, ?_, ?_, ?_, ?_⟩ ?_
      · show x.length - (i + 1) < x.length - i; omega
      · exact hi
      · simp [h2]
      · exact Wf.append h3 (Wf.one (by omega) (by omega))
      · show 0 ≤ _ / _; omega
      · show _ / _ < 2; omega
      · exact fin 0 (by decide) (by decide) (by rw [List.take_of_length_le (by omega), List.take_of_length_le (by omega)]; simp)
      · exact Hv
  · have hi' : i = x.length := by omega
    refine T ?_
    refine call_eq (by rw [show i + 1 = (o ++ [c]).length by simp [h2]]) (s_cut (o ++ [c]) (by simp; omega)) ?_
    refine T (r_ret ?_)
    rw [Try.results93]
    refine R (wk_eq ?_)
    have hw : Wf (o ++ [c]) := Wf.append h3 (Wf.one h4 (by omega))
    have h6 := H6.out
    rw [hi', List.take_length, List.take_of_length_le (by omega)] at h6
    rw [trim_N hw, val_snoc, h2, hi', ← h6, hv]
theorem s_Cmp (a b : List Int) (ha : Wf a) (hb : Wf b) (la : a.length ≤ 1000000000) (lb : b.length ≤ 1000000000) : Spec Try.prog 89 [U a, U b] (.sc (.int .i64 (sgn (val a) (val b)))) := by
  refine spec_of_awp mixed Try.func89 rfl Try.call89 (by kernel_rfl) (by simp) rfl ?_
  refine T (call_by (s_cut a (by omega)) ?_)
  refine T (call_by (s_cut b (by omega)) ?_)
  have la' := trim_len a
  have lb' := trim_len b
  have ia := Is.of ha rfl
  have ib := Is.of hb rfl
  by_cases h : (trim a).length = (trim b).length
  · refine T ?_
    refine w_loop (α := Nat) (fun n => [(.t 0, U (trim a)), (.t 1, U (trim b)), (.t 5, .sc (.int .i64 ((n : Int) - 1)))]) (fun n => n ≤ (trim a).length ∧ (trim a).drop n = (trim b).drop n) id (trim a).length ⟨Nat.le_refl _, by rw [List.drop_length, h, List.drop_length]⟩ ?_ ?_
    · exact Hv
    rintro n r ⟨h1, h2⟩ J hJ
    rcases n with _ | n
    · refine TR ?_
      rw [sgn_eq (by rw [← trim_val a, ← trim_val b]; simpa using congrArg val h2)]
    · by_cases e : (trim a).getD n 0 = (trim b).getD n 0
      · refine T ?_
        refine hJ _ n (Nat.lt_succ_self _) ⟨by omega, ?_⟩ Hv
        rw [drop_at (show n < (trim a).length by omega), drop_at (show n < (trim b).length by omega), e, h2]
      · by_cases e2 : (trim a).getD n 0 < (trim b).getD n 0
        · refine TR ?_
          rw [sgn_lt (by rw [← trim_val a, ← trim_val b]; exact lt_at ia.wf ib.wf (by omega) (by omega) h2 e2)]
        · refine TR ?_
          rw [sgn_gt (by rw [← trim_val a, ← trim_val b]; exact lt_at ib.wf ia.wf (by omega) (by omega) h2.symm (by omega))]
  · by_cases h2 : (trim a).length < (trim b).length
    · refine TR ?_
      rw [sgn_lt (ia.lt_of_len ib h2)]
    · refine TR ?_
      rw [sgn_gt (ib.lt_of_len ia (by omega))]
end Go.Ab
end
section
namespace Go.Ab
open Go Go.Proofs
set_option maxRecDepth 100000
set_option maxHeartbeats 8000000
def lentFs (f : FuncId) : Bool := f == 87 || f == 113
theorem prog_ok : progOK Try.prog = true := by decide +kernel
theorem wakes2 : Spec Try.prog 47 [] (.sc (.bool true)) := spec_run mixed prog_ok lentFs 4000 20 (by decide +kernel)
end Go.Ab
end
