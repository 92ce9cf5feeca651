import Derived.Test.YtgffficaoioljaaRbG
set_option linter.all false
section
namespace Go.Ab
open Go Go.Proofs
set_option maxRecDepth 100000
theorem TS {p q : Prop} (x : q) (h : q → p := by
  intro x_
  repeat first
    | with_reducible apply w_seq_c
    | with_reducible apply w_seq_s
    | with_reducible apply w_seq_k
    | with_reducible apply w_block
    | with_reducible apply w_ret
    | with_reducible apply w_skip
    | with_reducible apply w_exit
    | with_reducible apply n_normal
    | with_reducible apply n_exit
    | with_reducible apply n_ret
    | with_reducible apply b_normal
    | with_reducible apply b_exit
    | with_reducible apply b_ret
    | (with_reducible apply b_other; decide)
    | with_reducible apply w_regD
    | with_reducible apply w_regL
    | (with_reducible refine ok_and (by kernel_rfl) ?_)
    | (with_reducible apply cond_t; (simp only [initH_t, initH_h, ev_tmp, ev_const, ev_global, ev_func, hall_at, Go.Ab.tt, Go.Ab.th, Go.Ab.ht, Go.Ab.hh, init_t, init_h, kn_tt, kn_th, kn_ht, kn_hh, kn_nil, List.getD_cons_zero, List.getD_cons_succ, Nat.reduceEqDiff, reduceIte] <;> done))
    | (with_reducible apply cond_f; (simp only [initH_t, initH_h, ev_tmp, ev_const, ev_global, ev_func, hall_at, Go.Ab.tt, Go.Ab.th, Go.Ab.ht, Go.Ab.hh, init_t, init_h, kn_tt, kn_th, kn_ht, kn_hh, kn_nil, List.getD_cons_zero, List.getD_cons_succ, Nat.reduceEqDiff, reduceIte] <;> done))
    | (simp (disch := first | omega | (simp only [List.length_append, List.length_cons, List.length_nil, List.length_take, List.length_drop, List.length_set, List.length_replicate]; omega)) only [a_nil, a_move, a_assign, a_pick, a_alloc, a_box, a_build, a_buildSlice, a_load, a_store, a_bin, a_un, a_conv, a_make, a_slice, a_fieldAddr, a_field, a_indexAddr, a_index, a_extract, a_len, a_append, a_copy, a_call, a_guard, a_then, av_some, g_yes, g_tf, g_ft, g_no, put, appH_nil, appH_one, abin, ibin, aun, aextract, bnd, Option.map_some, Option.map_none, beq_i, bne_i, tdv, tmd, fdv, wru32, wru64, wru8, IntKind.bits, Int.reduceToNat, min_l, Int.reducePow, Int.reduceMul, Int.reduceAdd, Int.reduceNeg, Int.reduceLT, Int.reduceLE, Int.reduceEq, Int.cast_ofNat_Int, dec_t, dec_f, ite_t, ite_f, get_i, apick_t, apick_f, wr_i64, emod_fit, take_all, List.take_take, Nat.min_self, ayield, ayv_b, ayv_u, Option.bind_some, List.map_cons, List.map_nil, List.getElem?_toArray, List.getElem?_cons_zero, List.getElem?_cons_succ, List.length_map, List.getElem?_drop, List.getElem?_map, Nat.mul_one, Nat.one_mul, Nat.zero_mul, Nat.zero_add, Nat.add_zero, Int.toNat_zero, Int.toNat_natCast, Int.toNat_one, tn1, tn2, tns1, sub_mid, AV.to, AV.toL, Nat.sub_self, getD_mid, set_mid, tnn2, tns, tn21, ndiv32, nmod32, cs2, sub21, sub22, or64, or64', Go.Ab.cs, decide_true, decide_false, Int.add_sub_cancel, Nat.sub_zero, List.drop_zero, Bool.false_eq_true, Bool.not_true, Bool.not_false, frz, frzL, List.map_nil, d_nil, d_none, d_some, h_call, h_move, h_assign, h_pick, h_alloc, h_box, h_build, h_buildSlice, h_load, h_store, h_bin, h_un, h_conv, h_make, h_slice, h_fieldAddr, h_field, h_indexAddr, h_index, h_extract, h_len, h_append, h_copy, d_then, dv_some, dg_yes, dg_tf, dg_ft, dg_no, siteB_some, siteB_none, tmpsOf_nil, tmpsOf_t, tmpsOf_c, tmpsOf_f, tmpsOf_g, hr_at, sitesB, rds, wr_some, wr_none, Op.operands, Call.operands, AV.fp, AV.fpL, guardOf, Option.toList_some, Array.toList_append, List.contains_cons, List.contains_nil, Nat.reduceBEq, Bool.or_false, Bool.or_true, Bool.true_or, Bool.false_or, beq_self_eq_true, initH_t, initH_h, ev_tmp, ev_const, ev_global, ev_func, hall_at, Go.Ab.tt, Go.Ab.th, Go.Ab.ht, Go.Ab.hh, init_t, init_h, kn_tt, kn_th, kn_ht, kn_hh, kn_nil, List.getD_cons_zero, List.getD_cons_succ, Nat.reduceEqDiff, reduceIte, List.flatten_cons, List.flatten_nil, anew, app_u, ← List.map_append, List.length_append, List.replicate_zero, ← rep_map, ← List.map_set, genOf_blk, all_u32, fz_u32, ← List.map_take, ← List.map_drop, List.length_take, List.length_drop, List.length_set, List.reduceReplicate, List.all_cons, List.all_nil, List.all_append, Bool.and_true, Bool.true_and, AV.one, oneV, AV.cellsA, setAt, List.set_cons_zero, List.set_cons_succ, List.length_cons, List.length_nil, Nat.reduceAdd, Nat.reduceLeDiff, Nat.reduceMul, Nat.reduceLT, Nat.reducePow, Nat.reduceSub, true_and, and_true, and_self, ne_eq, not_false_eq_true, afill, abuildN, zrow, List.headD_cons, fzn, AV.fz, Value.cells, alen, arow, List.length_replicate, List.cons_append, List.nil_append, List.append_nil, List.take_succ_cons, List.take_zero, List.drop_succ_cons, aload1, aloadN, acutN, astoreN, abuildSliceN, amakeN, afaN, afd1, afdN, aixN, aslcN, aslcS, aixS_at, alenN, alenS, aappN, acpyN, ln22, beql4, bs22, ap22, sc22v, sc22h, sc22n, fa50_0, ld4, fa50_1, ld22, al50, st50, ld50, bneq4, ln67, ix67, bs67, ap67, mk22, ix22, ld47, cv47_79, cv79_47, st47, cv3_82, sc9, ln9, cv21_47, ixs9, cv5_79, cv47_2, cv2_47, bd50, fa50_2, cv3_79, st22, cp22, cv47_5, bs98, ap98, ln98, ix98, ld5, sc98v, sc98h, sc98n, st5, al101, st101, ld3, cv5_47, cv5_3])
  exact x_) : p := h x
end Go.Ab
end
