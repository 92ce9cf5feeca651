import Derived.Test.YtiamjfckgmnijaaGreatDoorFnF
import Derived.Test.YtiamjfckgmnijaaGreatDoorFnG
import Derived.Test.YtiamjfckgmnijaaGreatDoorFnNa
import Derived.Test.YtiamjfckgmnijaaGreatDoorFnD
set_option linter.all false
section
namespace Go.Ab
open Go
section
variable {P : Program} {k : Nat} {t : TypeId} {x : AV}
theorem top_W (hu : P.underlying t = some (.int .u64)) (h : Top P k t x) : ∃ z : Nat, x = .sc (.int .u64 z) ∧ z < 18446744073709551616 := by
  cases k with
  | zero => simp [Top, hu, Typed] at h
  | succ k =>
    simp only [Top, hu, Typed] at h
    obtain ⟨z, e, hw⟩ := h
    cases e
    have hw' : 0 ≤ z ∧ z ≤ 18446744073709551615 := by
      have := (Bool.and_eq_true_iff.1 hw)
      exact ⟨of_decide_eq_true this.1, of_decide_eq_true this.2⟩
    exact ⟨z.toNat, by rw [Int.toNat_of_nonneg hw'.1], by omega⟩
theorem top_I (hu : P.underlying t = some (.int .i64)) (h : Top P k t x) : ∃ z : Int, x = .sc (.int .i64 z) ∧ -9223372036854775808 ≤ z ∧ z ≤ 9223372036854775807 := by
  cases k with
  | zero => simp [Top, hu, Typed] at h
  | succ k =>
    simp only [Top, hu, Typed] at h
    obtain ⟨z, e, hw⟩ := h
    cases e
    have := (Bool.and_eq_true_iff.1 hw)
    exact ⟨z, rfl, of_decide_eq_true this.1, of_decide_eq_true this.2⟩
theorem top_B (hu : P.underlying t = some .bool) (h : Top P k t x) : ∃ b : Bool, x = .sc (.bool b) := by
  cases k with
  | zero => simp [Top, hu, Typed] at h
  | succ k =>
    simp only [Top, hu, Typed] at h
    obtain ⟨b, e⟩ := h
    cases e
    exact ⟨b, rfl⟩
theorem top_S (hu : P.underlying t = some .string) (h : Top P k t x) : ∃ s : ByteArray, x = .sc (.string s) ∧ s.size ≤ reachBytes := by
  cases k with
  | zero => simp [Top, hu, Typed] at h
  | succ k =>
    simp only [Top, hu, Typed] at h
    obtain ⟨s, e, hs⟩ := h
    cases e
    exact ⟨s, rfl, hs⟩
end
end Go.Ab
end
section
namespace Go.Ab
open Go Go.Proofs
set_option maxRecDepth 100000
theorem TS {p q : Prop} (x : q) (h : q → p := by
  intro x_
  repeat first
    | with_reducible apply w_seq_c
    | with_reducible apply w_seq_s
    | with_reducible apply w_seq_k
    | with_reducible apply w_block
    | with_reducible apply w_ret
    | with_reducible apply w_skip
    | with_reducible apply w_exit
    | with_reducible apply n_normal
    | with_reducible apply n_exit
    | with_reducible apply n_ret
    | with_reducible apply b_normal
    | with_reducible apply b_exit
    | with_reducible apply b_ret
    | (with_reducible apply b_other; decide)
    | with_reducible apply w_regD
    | with_reducible apply w_regL
    | (with_reducible refine ok_and (by kernel_rfl) ?_)
    | (with_reducible apply cond_t; (simp only [Nat.reduceLeDiff, initH_t, initH_h, initG_t, initG_h, iniR, List.getElem?_nil, ev_tmp, ev_const, ev_global, ev_func, hall_at, Go.Ab.tt, Go.Ab.th, Go.Ab.ht, Go.Ab.hh, init_t, init_h, kn_tt, kn_th, kn_ht, kn_hh, kn_nil, List.getD_cons_zero, List.getD_cons_succ, Nat.reduceEqDiff, reduceIte] <;> done))
    | (with_reducible apply cond_f; (simp only [Nat.reduceLeDiff, initH_t, initH_h, initG_t, initG_h, iniR, List.getElem?_nil, ev_tmp, ev_const, ev_global, ev_func, hall_at, Go.Ab.tt, Go.Ab.th, Go.Ab.ht, Go.Ab.hh, init_t, init_h, kn_tt, kn_th, kn_ht, kn_hh, kn_nil, List.getD_cons_zero, List.getD_cons_succ, Nat.reduceEqDiff, reduceIte] <;> done))
    | (simp (disch := first | omega | (simp only [List.length_append, List.length_cons, List.length_nil, List.length_take, List.length_drop, List.length_set, List.length_replicate]; omega)) only [a_nil, a_move, a_assign, a_pick, a_alloc, a_box, a_build, a_buildSlice, a_load, a_store, a_bin, a_un, a_conv, a_make, a_slice, a_fieldAddr, a_field, a_indexAddr, a_index, a_extract, a_len, a_append, a_copy, a_call, a_guard, a_then, av_some, g_yes, g_tf, g_ft, g_no, put, fzs_nil, fzs_cons, appH_nil, appH_cons, bne_self_eq_false, not_true_eq_false, Bool.true_and, Bool.false_and, Bool.and_true, Bool.and_false, abin, ibin, aun, aextract, bnd, Option.map_some, Option.map_none, beq_i, bne_i, tdv, tmd, fdv, wru32, wru64, wru8, IntKind.bits, Int.reduceToNat, min_l, Int.reducePow, Int.reduceMul, Int.reduceAdd, Int.reduceNeg, Int.reduceLT, Int.reduceLE, Int.reduceEq, Int.cast_ofNat_Int, dec_t, dec_f, ite_t, ite_f, get_i, apick_t, apick_f, wr_i64, emod_fit, take_all, List.take_take, Nat.min_self, ayield, ayv_b, ayv_u, Option.bind_some, List.map_cons, List.map_nil, List.getElem?_toArray, List.getElem?_cons_zero, List.getElem?_cons_succ, List.length_map, List.getElem?_drop, List.getElem?_map, Nat.mul_one, Nat.one_mul, Nat.zero_mul, Nat.zero_add, Nat.add_zero, Int.toNat_zero, Int.toNat_natCast, Int.toNat_one, tn1, tn2, tns1, sub_mid, AV.to, AV.toL, Nat.sub_self, getD_mid, set_mid, tnn2, tns, tn21, ndiv32, nmod32, cs2, sub21, sub22, or64, or64', Go.Ab.cs, decide_true, decide_false, Int.add_sub_cancel, Nat.sub_zero, List.drop_zero, Bool.false_eq_true, Bool.not_true, Bool.not_false, frz, frzL, List.map_nil, d_nil, d_none, d_some, h_call, h_move, h_assign, h_pick, h_alloc, h_box, h_build, h_buildSlice, h_load, h_store, h_bin, h_un, h_conv, h_make, h_slice, h_fieldAddr, h_field, h_indexAddr, h_index, h_extract, h_len, h_append, h_copy, d_then, dv_some, dg_yes, dg_tf, dg_ft, dg_no, siteB_some, siteB_none, tmpsOf_nil, tmpsOf_t, tmpsOf_c, tmpsOf_f, tmpsOf_g, hr_at, sitesB, rds, wr_some, wr_none, Op.operands, Call.operands, AV.fp, AV.fpL, guardOf, Option.toList_some, Array.toList_append, List.contains_cons, List.contains_nil, Nat.reduceBEq, Bool.or_false, Bool.or_true, Bool.true_or, Bool.false_or, beq_self_eq_true, Nat.reduceLeDiff, initH_t, initH_h, initG_t, initG_h, iniR, List.getElem?_nil, ev_tmp, ev_const, ev_global, ev_func, hall_at, Go.Ab.tt, Go.Ab.th, Go.Ab.ht, Go.Ab.hh, init_t, init_h, kn_tt, kn_th, kn_ht, kn_hh, kn_nil, List.getD_cons_zero, List.getD_cons_succ, Nat.reduceEqDiff, reduceIte, true_or, or_true, false_or, or_false, Nat.zero_le, List.flatten_cons, List.flatten_nil, anew, app_u, ← List.map_append, List.length_append, List.replicate_zero, ← rep_map, ← List.map_set, genOf_blk, all_u32, fz_u32, ← List.map_take, ← List.map_drop, List.length_take, List.length_drop, List.length_set, List.reduceReplicate, List.all_cons, List.all_nil, List.all_append, Bool.and_true, Bool.true_and, AV.one, oneV, AV.cellsA, setAt, List.set_cons_zero, List.set_cons_succ, List.length_cons, List.length_nil, Nat.reduceAdd, Nat.reduceLeDiff, Nat.reduceMul, Nat.reduceLT, Nat.reducePow, Nat.reduceSub, true_and, and_true, and_self, ne_eq, not_false_eq_true, afill, abuildN, zrow, List.headD_cons, fzn, AV.fz, Value.cells, alen, arow, List.length_replicate, List.cons_append, List.nil_append, List.append_nil, List.take_succ_cons, List.take_zero, List.drop_succ_cons, Go.Ab.pOf, upsOf, asg, nmO, nmI, KA, AV.ren, AV.renL, and_self, false_and, Bool.false_eq_true, aload1, aloadN, acutN, astoreN, abuildSliceN, amakeN, afaN, afd1, afdN, aixN, aslcN, aslcS, aixS_at, alenN, alenS, aappN, acpyN, al26, st26, ld26, bs45, ln45, ix45, ld30, bd26, cv22_54, bs24, fa26_0, ld4, beql4, fa26_1, ld24, fa26_2, ln24, ap24, ix24, ld54, cv54_22, st4, ln9, sc9, ixs9, cv3_55, mk24, st54, cv22_3, cp24, sc24v, sc24h, sc24n, cv3_22, bneq4, cv22_2, ld5, cv5_3, cv54_5, cv54_2, cv2_54, cv5_54, ln120, ix120, cv3_5, cv5_22, al126, cv22_5, ld3, ld85, bd135, ld22, st5, ap120, cv2_22, mk120, bd146, cv55_54, st147, st106, st138, st85])
  exact x_) : p := h x
theorem TL {p q : Prop} (x : q) (h : q → p := by
  intro x_
  repeat first
    | with_reducible apply w_seq
    | with_reducible apply w_block
    | with_reducible apply w_ret
    | with_reducible apply w_skip
    | with_reducible apply w_exit
    | with_reducible apply n_normal
    | with_reducible apply n_exit
    | with_reducible apply n_ret
    | with_reducible apply b_normal
    | with_reducible apply b_exit
    | with_reducible apply b_ret
    | (with_reducible apply b_other; decide)
    | with_reducible apply w_regD
    | with_reducible apply w_regL
    | (with_reducible refine ok_and (by kernel_rfl) ?_)
    | (with_reducible apply cond_t; (simp only [Nat.reduceLeDiff, initH_t, initH_h, initG_t, initG_h, iniR, List.getElem?_nil, ev_tmp, ev_const, ev_global, ev_func, hall_at, Go.Ab.tt, Go.Ab.th, Go.Ab.ht, Go.Ab.hh, init_t, init_h, kn_tt, kn_th, kn_ht, kn_hh, kn_nil, List.getD_cons_zero, List.getD_cons_succ, Nat.reduceEqDiff, reduceIte] <;> done))
    | (with_reducible apply cond_f; (simp only [Nat.reduceLeDiff, initH_t, initH_h, initG_t, initG_h, iniR, List.getElem?_nil, ev_tmp, ev_const, ev_global, ev_func, hall_at, Go.Ab.tt, Go.Ab.th, Go.Ab.ht, Go.Ab.hh, init_t, init_h, kn_tt, kn_th, kn_ht, kn_hh, kn_nil, List.getD_cons_zero, List.getD_cons_succ, Nat.reduceEqDiff, reduceIte] <;> done))
    | (simp (maxSteps := 10000000) (disch := first | omega | (simp only [List.length_append, List.length_cons, List.length_nil, List.length_take, List.length_drop, List.length_set, List.length_replicate]; omega)) only [a_nil, a_move, a_assign, a_pick, a_alloc, a_box, a_build, a_buildSlice, a_load, a_store, a_bin, a_un, a_conv, a_make, a_slice, a_fieldAddr, a_field, a_indexAddr, a_index, a_extract, a_len, a_append, a_copy, a_call, a_guard, a_then, av_some, g_yes, g_tf, g_ft, g_no, put, fzs_nil, fzs_cons, appH_nil, appH_cons, bne_self_eq_false, not_true_eq_false, Bool.true_and, Bool.false_and, Bool.and_true, Bool.and_false, abin, ibin, aun, aextract, bnd, Option.map_some, Option.map_none, beq_i, bne_i, tdv, tmd, fdv, wru32, wru64, wru8, IntKind.bits, Int.reduceToNat, min_l, Int.reducePow, Int.reduceMul, Int.reduceAdd, Int.reduceNeg, Int.reduceLT, Int.reduceLE, Int.reduceEq, Int.cast_ofNat_Int, dec_t, dec_f, ite_t, ite_f, get_i, apick_t, apick_f, wr_i64, emod_fit, take_all, List.take_take, Nat.min_self, ayield, ayv_b, ayv_u, Option.bind_some, List.map_cons, List.map_nil, List.getElem?_toArray, List.getElem?_cons_zero, List.getElem?_cons_succ, List.length_map, List.getElem?_drop, List.getElem?_map, Nat.mul_one, Nat.one_mul, Nat.zero_mul, Nat.zero_add, Nat.add_zero, Int.toNat_zero, Int.toNat_natCast, Int.toNat_one, tn1, tn2, tns1, sub_mid, AV.to, AV.toL, Nat.sub_self, getD_mid, set_mid, tnn2, tns, tn21, ndiv32, nmod32, cs2, sub21, sub22, or64, or64', Go.Ab.cs, decide_true, decide_false, Int.add_sub_cancel, Nat.sub_zero, List.drop_zero, Bool.false_eq_true, Bool.not_true, Bool.not_false, frz, frzL, List.map_nil, d_nil, d_none, d_some, h_call, h_move, h_assign, h_pick, h_alloc, h_box, h_build, h_buildSlice, h_load, h_store, h_bin, h_un, h_conv, h_make, h_slice, h_fieldAddr, h_field, h_indexAddr, h_index, h_extract, h_len, h_append, h_copy, d_then, dv_some, dg_yes, dg_tf, dg_ft, dg_no, siteB_some, siteB_none, tmpsOf_nil, tmpsOf_t, tmpsOf_c, tmpsOf_f, tmpsOf_g, hr_at, sitesB, rds, wr_some, wr_none, Op.operands, Call.operands, AV.fp, AV.fpL, guardOf, Option.toList_some, Array.toList_append, List.contains_cons, List.contains_nil, Nat.reduceBEq, Bool.or_false, Bool.or_true, Bool.true_or, Bool.false_or, beq_self_eq_true, Nat.reduceLeDiff, initH_t, initH_h, initG_t, initG_h, iniR, List.getElem?_nil, ev_tmp, ev_const, ev_global, ev_func, hall_at, Go.Ab.tt, Go.Ab.th, Go.Ab.ht, Go.Ab.hh, init_t, init_h, kn_tt, kn_th, kn_ht, kn_hh, kn_nil, List.getD_cons_zero, List.getD_cons_succ, Nat.reduceEqDiff, reduceIte, true_or, or_true, false_or, or_false, Nat.zero_le, List.flatten_cons, List.flatten_nil, anew, app_u, ← List.map_append, List.length_append, List.replicate_zero, ← rep_map, ← List.map_set, genOf_blk, all_u32, fz_u32, ← List.map_take, ← List.map_drop, List.length_take, List.length_drop, List.length_set, List.reduceReplicate, List.all_cons, List.all_nil, List.all_append, Bool.and_true, Bool.true_and, AV.one, oneV, AV.cellsA, setAt, List.set_cons_zero, List.set_cons_succ, List.length_cons, List.length_nil, Nat.reduceAdd, Nat.reduceLeDiff, Nat.reduceMul, Nat.reduceLT, Nat.reducePow, Nat.reduceSub, true_and, and_true, and_self, ne_eq, not_false_eq_true, afill, abuildN, zrow, List.headD_cons, fzn, AV.fz, Value.cells, alen, arow, List.length_replicate, List.cons_append, List.nil_append, List.append_nil, List.take_succ_cons, List.take_zero, List.drop_succ_cons, Go.Ab.pOf, upsOf, asg, nmO, nmI, KA, AV.ren, AV.renL, and_self, false_and, Bool.false_eq_true, aload1, aloadN, acutN, astoreN, abuildSliceN, amakeN, afaN, afd1, afdN, aixN, aslcN, aslcS, aixS_at, alenN, alenS, aappN, acpyN, al26, st26, ld26, bs45, ln45, ix45, ld30, bd26, cv22_54, bs24, fa26_0, ld4, beql4, fa26_1, ld24, fa26_2, ln24, ap24, ix24, ld54, cv54_22, st4, ln9, sc9, ixs9, cv3_55, mk24, st54, cv22_3, cp24, sc24v, sc24h, sc24n, cv3_22, bneq4, cv22_2, ld5, cv5_3, cv54_5, cv54_2, cv2_54, cv5_54, ln120, ix120, cv3_5, cv5_22, al126, cv22_5, ld3, ld85, bd135, ld22, st5, ap120, cv2_22, mk120, bd146, cv55_54, st147, st106, st138, st85])
  exact x_) : p := h x
end Go.Ab
end
section
namespace Go.Ab
open Go
theorem ofInt_nat {x : Nat} : BitVec.ofInt 64 (x : Int) = BitVec.ofNat 64 x := BitVec.ofInt_natCast ..
theorem wrap64 {x : Int} (h : -9223372036854775808 ≤ x) (h' : x ≤ 9223372036854775807) : IntKind.i64.wrap x = x := by
  simp only [IntKind.wrap, IntKind.bits, IntKind.signed]
  simp
  omega
theorem wrapu64 {x : Int} (h : 0 ≤ x) (h' : x < 18446744073709551616) : IntKind.u64.wrap x = x := by
  simp only [IntKind.wrap, IntKind.bits, IntKind.signed]
  simp
  omega
theorem and2047 {x : Nat} (hx : x < 9223372036854775808) : bAnd .u64 ((x : Int) / 4503599627370496) 2047 = ((x / 4503599627370496 : Nat) : Int) := by
  have e : (x : Int) / 4503599627370496 = ((x / 4503599627370496 : Nat) : Int) := by omega
  have hq : x / 4503599627370496 < 2048 := by omega
  rw [e]
  generalize x / 4503599627370496 = q at *
  have e2 : (BitVec.ofInt 64 (q : Int) &&& BitVec.ofInt 64 2047).toNat = q := by
    rw [ofInt_nat, show BitVec.ofInt 64 2047 = BitVec.ofNat 64 (2 ^ 11 - 1) by decide, BitVec.toNat_and, BitVec.toNat_ofNat, BitVec.toNat_ofNat, Nat.mod_eq_of_lt (by omega), show (2 ^ 11 - 1) % 2 ^ 64 = 2 ^ 11 - 1 by decide, Nat.and_two_pow_sub_one_eq_mod]
    omega
  show IntKind.u64.wrap ((BitVec.ofInt 64 (q : Int) &&& BitVec.ofInt 64 2047).toNat : Int) = q
  rw [e2, wrapu64 (by omega) (by omega)]
theorem and2047i {x : Nat} (hx : x < 9223372036854775808) : bAnd .i64 ((x : Int) / 4503599627370496) 2047 = ((x / 4503599627370496 : Nat) : Int) := by
  have e : (x : Int) / 4503599627370496 = ((x / 4503599627370496 : Nat) : Int) := by omega
  have hq : x / 4503599627370496 < 2048 := by omega
  rw [e]
  generalize x / 4503599627370496 = q at *
  have e2 : (BitVec.ofInt 64 (q : Int) &&& BitVec.ofInt 64 2047).toNat = q := by
    rw [ofInt_nat, show BitVec.ofInt 64 2047 = BitVec.ofNat 64 (2 ^ 11 - 1) by decide, BitVec.toNat_and, BitVec.toNat_ofNat, BitVec.toNat_ofNat, Nat.mod_eq_of_lt (by omega), show (2 ^ 11 - 1) % 2 ^ 64 = 2 ^ 11 - 1 by decide, Nat.and_two_pow_sub_one_eq_mod]
    omega
  show IntKind.i64.wrap ((BitVec.ofInt 64 (q : Int) &&& BitVec.ofInt 64 2047).toNat : Int) = q
  rw [e2, wrap64 (by omega) (by omega)]
theorem nat_andnot {x : Nat} (hx : x < 9223372036854775808) : x &&& 9227875636482146303 = x % 4503599627370496 := by
  rw [show 9227875636482146303 = 2 ^ 63 * 1 ||| (2 ^ 52 - 1) by decide, Nat.and_or_distrib_left, Nat.and_two_pow_sub_one_eq_mod]
  have : x &&& 2 ^ 63 * 1 = 0 := by
    refine Nat.eq_of_testBit_eq fun i => ?_
    rw [Nat.testBit_and, Nat.mul_one, Nat.testBit_two_pow, Nat.zero_testBit]
    by_cases h : 63 = i
    · subst h; rw [Nat.testBit_lt_two_pow (by omega)]; rfl
    · simp [h]
  rw [this, Nat.zero_or]
theorem andnot_exp {x : Nat} (hx : x < 9223372036854775808) : ((BitVec.ofInt 64 (x : Int) &&& ~~~BitVec.ofInt 64 9218868437227405312).toNat : Int) = ((x % 4503599627370496 : Nat) : Int) := by
  rw [show (~~~BitVec.ofInt 64 9218868437227405312) = BitVec.ofNat 64 9227875636482146303 by decide, ofInt_nat, BitVec.toNat_and, BitVec.toNat_ofNat, BitVec.toNat_ofNat, Nat.mod_eq_of_lt (show x < 2 ^ 64 by omega), Nat.mod_eq_of_lt (show 9227875636482146303 < 2 ^ 64 by decide), nat_andnot hx]
theorem or_exp {f E : Nat} (hf : f < 4503599627370496) (hE : E < 2048) : bOr .u64 (f : Int) (((E * 4503599627370496 : Nat) : Int)) = ((E * 4503599627370496 + f : Nat) : Int) := by
  have e2 : (BitVec.ofInt 64 (f : Int) ||| BitVec.ofInt 64 ((E * 4503599627370496 : Nat) : Int)).toNat = E * 4503599627370496 + f := by
    rw [ofInt_nat, ofInt_nat, BitVec.toNat_or, BitVec.toNat_ofNat, BitVec.toNat_ofNat, Nat.mod_eq_of_lt (by omega), Nat.mod_eq_of_lt (by omega), Nat.or_comm]
    have := Nat.two_pow_add_eq_or_of_lt (show f < 2 ^ 52 from hf) E
    rw [show E * 4503599627370496 = 2 ^ 52 * E by omega]
    exact this.symm
  show IntKind.u64.wrap ((BitVec.ofInt 64 (f : Int) ||| BitVec.ofInt 64 ((E * 4503599627370496 : Nat) : Int)).toNat : Int) = _
  rw [e2, wrapu64 (by omega) (by omega)]
end Go.Ab
end
section
namespace Go.Ab
open Go
section
variable {P : Program} {B : Nat} {ops : Array Oper} {K : S → Prop} {rest : List Oper} {s : S} {d : Option Tmp} {ty : TypeId} {pos : String} {af : Array Edge} {t t' : TypeId}
theorem a_max {az : Array Operand} : AOps0 P B ops K (⟨d, .call ⟨.builtin .max, az, #[t, t']⟩, ty, pos, af, none⟩ :: rest) s = AThen P B ops K rest s d (abuiltin P B d (hall s) .max [t, t'] (az.toList.map (ev s))) := a_eff rfl
theorem a_min {az : Array Operand} : AOps0 P B ops K (⟨d, .call ⟨.builtin .min, az, #[t, t']⟩, ty, pos, af, none⟩ :: rest) s = AThen P B ops K rest s d (abuiltin P B d (hall s) .min [t, t'] (az.toList.map (ev s))) := a_eff rfl
end
section
variable {P : Program} {B : Nat} {ops : Array Oper} {K : List Ent → S → Prop} {rest : List Oper} {L : List Ent} {s : S} {gt : List Loc} {d : Option Tmp} {t t' : TypeId}
theorem h_max {az : Array Operand} : Head P B ops K rest L s gt d (.call ⟨.builtin .max, az, #[t, t']⟩) = DThen P B ops K rest L (gt ++ rds B d (.call ⟨.builtin .max, az, #[t, t']⟩) s) s d (abuiltin P B d (hr B d (.call ⟨.builtin .max, az, #[t, t']⟩) s) .max [t, t'] (az.toList.map (ev s))) := h_eff rfl
theorem h_min {az : Array Operand} : Head P B ops K rest L s gt d (.call ⟨.builtin .min, az, #[t, t']⟩) = DThen P B ops K rest L (gt ++ rds B d (.call ⟨.builtin .min, az, #[t, t']⟩) s) s d (abuiltin P B d (hr B d (.call ⟨.builtin .min, az, #[t, t']⟩) s) .min [t, t'] (az.toList.map (ev s))) := h_eff rfl
end
section
variable {P : Program} {B : Nat} {d : Option Tmp} {h : Nat → AV} {t t' : TypeId} {k : IntKind} {m n : Int}
theorem mx_l (e : m < n) : abuiltin P B d h .max [t, t'] [.sc (.int k m), .sc (.int k n)] = some (.sc (.int k n), []) := by
  show (if k = k then some (AV.sc (.int k (if m < n then n else m)), []) else none) = _
  rw [if_pos rfl, if_pos e]
theorem mx_g (e : n ≤ m) : abuiltin P B d h .max [t, t'] [.sc (.int k m), .sc (.int k n)] = some (.sc (.int k m), []) := by
  show (if k = k then some (AV.sc (.int k (if m < n then n else m)), []) else none) = _
  rw [if_pos rfl, if_neg (by omega)]
theorem mn_l (e : n < m) : abuiltin P B d h .min [t, t'] [.sc (.int k m), .sc (.int k n)] = some (.sc (.int k n), []) := by
  show (if k = k then some (AV.sc (.int k (if n < m then n else m)), []) else none) = _
  rw [if_pos rfl, if_pos e]
theorem mn_g (e : m ≤ n) : abuiltin P B d h .min [t, t'] [.sc (.int k m), .sc (.int k n)] = some (.sc (.int k m), []) := by
  show (if k = k then some (AV.sc (.int k (if n < m then n else m)), []) else none) = _
  rw [if_pos rfl, if_neg (by omega)]
end
end Go.Ab
end
section
namespace Go.Ab
open Go Go.Proofs
set_option maxRecDepth 100000
theorem TM {p q : Prop} (x : q) (h : q → p := by
  intro x_
  repeat first
    | with_reducible apply w_seq
    | with_reducible apply w_block
    | with_reducible apply w_ret
    | with_reducible apply w_skip
    | with_reducible apply w_exit
    | with_reducible apply n_normal
    | with_reducible apply n_exit
    | with_reducible apply n_ret
    | with_reducible apply b_normal
    | with_reducible apply b_exit
    | with_reducible apply b_ret
    | (with_reducible apply b_other; decide)
    | with_reducible apply w_regD
    | with_reducible apply w_regL
    | (with_reducible refine ok_and (by kernel_rfl) ?_)
    | (with_reducible apply cond_t; (simp only [Nat.reduceLeDiff, initH_t, initH_h, initG_t, initG_h, iniR, List.getElem?_nil, ev_tmp, ev_const, ev_global, ev_func, hall_at, Go.Ab.tt, Go.Ab.th, Go.Ab.ht, Go.Ab.hh, init_t, init_h, kn_tt, kn_th, kn_ht, kn_hh, kn_nil, List.getD_cons_zero, List.getD_cons_succ, Nat.reduceEqDiff, reduceIte] <;> done))
    | (with_reducible apply cond_f; (simp only [Nat.reduceLeDiff, initH_t, initH_h, initG_t, initG_h, iniR, List.getElem?_nil, ev_tmp, ev_const, ev_global, ev_func, hall_at, Go.Ab.tt, Go.Ab.th, Go.Ab.ht, Go.Ab.hh, init_t, init_h, kn_tt, kn_th, kn_ht, kn_hh, kn_nil, List.getD_cons_zero, List.getD_cons_succ, Nat.reduceEqDiff, reduceIte] <;> done))
    | (simp (disch := first | omega | (simp only [List.length_append, List.length_cons, List.length_nil, List.length_take, List.length_drop, List.length_set, List.length_replicate]; omega)) only [a_nil, a_move, a_assign, a_pick, a_alloc, a_box, a_build, a_buildSlice, a_load, a_store, a_bin, a_un, a_conv, a_make, a_slice, a_fieldAddr, a_field, a_indexAddr, a_index, a_extract, a_len, a_max, a_min, mx_l, mx_g, mn_l, mn_g, a_append, a_copy, a_call, a_guard, a_then, av_some, g_yes, g_tf, g_ft, g_no, put, fzs_nil, fzs_cons, appH_nil, appH_cons, bne_self_eq_false, not_true_eq_false, Bool.true_and, Bool.false_and, Bool.and_true, Bool.and_false, abin, ibin, aun, aextract, bnd, Option.map_some, Option.map_none, beq_i, bne_i, tdv, tmd, fdv, wru32, wru64, wru8, IntKind.bits, Int.reduceToNat, min_l, Int.reducePow, Int.reduceMul, Int.reduceAdd, Int.reduceNeg, Int.reduceLT, Int.reduceLE, Int.reduceEq, Int.cast_ofNat_Int, dec_t, dec_f, ite_t, ite_f, get_i, apick_t, apick_f, wr_i64, emod_fit, take_all, List.take_take, Nat.min_self, ayield, ayv_b, ayv_u, Option.bind_some, List.map_cons, List.map_nil, List.getElem?_toArray, List.getElem?_cons_zero, List.getElem?_cons_succ, List.length_map, List.getElem?_drop, List.getElem?_map, Nat.mul_one, Nat.one_mul, Nat.zero_mul, Nat.zero_add, Nat.add_zero, Int.toNat_zero, Int.toNat_natCast, Int.toNat_one, tn1, tn2, tns1, sub_mid, AV.to, AV.toL, Nat.sub_self, getD_mid, set_mid, tnn2, tns, tn21, ndiv32, nmod32, cs2, sub21, sub22, or64, or64', Go.Ab.cs, decide_true, decide_false, Int.add_sub_cancel, Nat.sub_zero, List.drop_zero, Bool.false_eq_true, Bool.not_true, Bool.not_false, frz, frzL, List.map_nil, d_nil, d_none, d_some, h_call, h_move, h_assign, h_pick, h_alloc, h_box, h_build, h_buildSlice, h_load, h_store, h_bin, h_un, h_conv, h_make, h_slice, h_fieldAddr, h_field, h_indexAddr, h_index, h_extract, h_len, h_max, h_min, h_append, h_copy, d_then, dv_some, dg_yes, dg_tf, dg_ft, dg_no, siteB_some, siteB_none, tmpsOf_nil, tmpsOf_t, tmpsOf_c, tmpsOf_f, tmpsOf_g, hr_at, sitesB, rds, wr_some, wr_none, Op.operands, Call.operands, AV.fp, AV.fpL, guardOf, Option.toList_some, Array.toList_append, List.contains_cons, List.contains_nil, Nat.reduceBEq, Bool.or_false, Bool.or_true, Bool.true_or, Bool.false_or, beq_self_eq_true, Nat.reduceLeDiff, initH_t, initH_h, initG_t, initG_h, iniR, List.getElem?_nil, ev_tmp, ev_const, ev_global, ev_func, hall_at, Go.Ab.tt, Go.Ab.th, Go.Ab.ht, Go.Ab.hh, init_t, init_h, kn_tt, kn_th, kn_ht, kn_hh, kn_nil, List.getD_cons_zero, List.getD_cons_succ, Nat.reduceEqDiff, reduceIte, true_or, or_true, false_or, or_false, Nat.zero_le, List.flatten_cons, List.flatten_nil, anew, app_u, ← List.map_append, List.length_append, List.replicate_zero, ← rep_map, ← List.map_set, genOf_blk, all_u32, fz_u32, ← List.map_take, ← List.map_drop, List.length_take, List.length_drop, List.length_set, List.reduceReplicate, List.all_cons, List.all_nil, List.all_append, Bool.and_true, Bool.true_and, AV.one, oneV, AV.cellsA, setAt, List.set_cons_zero, List.set_cons_succ, List.length_cons, List.length_nil, Nat.reduceAdd, Nat.reduceLeDiff, Nat.reduceMul, Nat.reduceLT, Nat.reducePow, Nat.reduceSub, true_and, and_true, and_self, ne_eq, not_false_eq_true, afill, abuildN, zrow, List.headD_cons, fzn, AV.fz, Value.cells, alen, arow, List.length_replicate, List.cons_append, List.nil_append, List.append_nil, List.take_succ_cons, List.take_zero, List.drop_succ_cons, Go.Ab.pOf, upsOf, asg, nmO, nmI, KA, AV.ren, AV.renL, and_self, false_and, Bool.false_eq_true, aload1, aloadN, acutN, astoreN, abuildSliceN, amakeN, afaN, afd1, afdN, aixN, aslcN, aslcS, aixS_at, alenN, alenS, aappN, acpyN, al26, st26, ld26, bs45, ln45, ix45, ld30, bd26, cv22_54, bs24, fa26_0, ld4, beql4, fa26_1, ld24, fa26_2, ln24, ap24, ix24, ld54, cv54_22, st4, ln9, sc9, ixs9, cv3_55, mk24, st54, cv22_3, cp24, sc24v, sc24h, sc24n, cv3_22, bneq4, cv22_2, ld5, cv5_3, cv54_5, cv54_2, cv2_54, cv5_54, ln120, ix120, cv3_5, cv5_22, al126, cv22_5, ld3, ld85, bd135, ld22, st5, ap120, cv2_22, mk120, bd146, cv55_54, st147, st106, st138, st85])
  exact x_) : p := h x
theorem TMR {p q : Prop} (x : q) (h : q → p := by
  intro x_
  repeat first
    | with_reducible apply w_seq
    | with_reducible apply w_block
    | with_reducible apply w_ret
    | with_reducible apply w_skip
    | with_reducible apply w_exit
    | with_reducible apply n_normal
    | with_reducible apply n_exit
    | with_reducible apply n_ret
    | with_reducible apply b_normal
    | with_reducible apply b_exit
    | with_reducible apply b_ret
    | (with_reducible apply b_other; decide)
    | with_reducible apply w_regD
    | with_reducible apply w_regL
    | (with_reducible refine ok_and (by kernel_rfl) ?_)
    | (with_reducible apply cond_t; (simp only [Nat.reduceLeDiff, initH_t, initH_h, initG_t, initG_h, iniR, List.getElem?_nil, ev_tmp, ev_const, ev_global, ev_func, hall_at, Go.Ab.tt, Go.Ab.th, Go.Ab.ht, Go.Ab.hh, init_t, init_h, kn_tt, kn_th, kn_ht, kn_hh, kn_nil, List.getD_cons_zero, List.getD_cons_succ, Nat.reduceEqDiff, reduceIte] <;> done))
    | (with_reducible apply cond_f; (simp only [Nat.reduceLeDiff, initH_t, initH_h, initG_t, initG_h, iniR, List.getElem?_nil, ev_tmp, ev_const, ev_global, ev_func, hall_at, Go.Ab.tt, Go.Ab.th, Go.Ab.ht, Go.Ab.hh, init_t, init_h, kn_tt, kn_th, kn_ht, kn_hh, kn_nil, List.getD_cons_zero, List.getD_cons_succ, Nat.reduceEqDiff, reduceIte] <;> done))
    | (simp (disch := first | omega | (simp only [List.length_append, List.length_cons, List.length_nil, List.length_take, List.length_drop, List.length_set, List.length_replicate]; omega)) only [a_nil, a_move, a_assign, a_pick, a_alloc, a_box, a_build, a_buildSlice, a_load, a_store, a_bin, a_un, a_conv, a_make, a_slice, a_fieldAddr, a_field, a_indexAddr, a_index, a_extract, a_len, a_max, a_min, mx_l, mx_g, mn_l, mn_g, a_append, a_copy, a_call, a_guard, a_then, av_some, g_yes, g_tf, g_ft, g_no, put, fzs_nil, fzs_cons, appH_nil, appH_cons, bne_self_eq_false, not_true_eq_false, Bool.true_and, Bool.false_and, Bool.and_true, Bool.and_false, abin, ibin, aun, aextract, bnd, Option.map_some, Option.map_none, beq_i, bne_i, tdv, tmd, fdv, wru32, wru64, wru8, IntKind.bits, Int.reduceToNat, min_l, Int.reducePow, Int.reduceMul, Int.reduceAdd, Int.reduceNeg, Int.reduceLT, Int.reduceLE, Int.reduceEq, Int.cast_ofNat_Int, dec_t, dec_f, ite_t, ite_f, get_i, apick_t, apick_f, wr_i64, emod_fit, take_all, List.take_take, Nat.min_self, ayield, ayv_b, ayv_u, Option.bind_some, List.map_cons, List.map_nil, List.getElem?_toArray, List.getElem?_cons_zero, List.getElem?_cons_succ, List.length_map, List.getElem?_drop, List.getElem?_map, Nat.mul_one, Nat.one_mul, Nat.zero_mul, Nat.zero_add, Nat.add_zero, Int.toNat_zero, Int.toNat_natCast, Int.toNat_one, tn1, tn2, tns1, sub_mid, AV.to, AV.toL, Nat.sub_self, getD_mid, set_mid, tnn2, tns, tn21, ndiv32, nmod32, cs2, sub21, sub22, or64, or64', Go.Ab.cs, decide_true, decide_false, Int.add_sub_cancel, Nat.sub_zero, List.drop_zero, Bool.false_eq_true, Bool.not_true, Bool.not_false, frz, frzL, List.map_nil, d_nil, d_none, d_some, h_call, h_move, h_assign, h_pick, h_alloc, h_box, h_build, h_buildSlice, h_load, h_store, h_bin, h_un, h_conv, h_make, h_slice, h_fieldAddr, h_field, h_indexAddr, h_index, h_extract, h_len, h_max, h_min, h_append, h_copy, d_then, dv_some, dg_yes, dg_tf, dg_ft, dg_no, siteB_some, siteB_none, tmpsOf_nil, tmpsOf_t, tmpsOf_c, tmpsOf_f, tmpsOf_g, hr_at, sitesB, rds, wr_some, wr_none, Op.operands, Call.operands, AV.fp, AV.fpL, guardOf, Option.toList_some, Array.toList_append, List.contains_cons, List.contains_nil, Nat.reduceBEq, Bool.or_false, Bool.or_true, Bool.true_or, Bool.false_or, beq_self_eq_true, Nat.reduceLeDiff, initH_t, initH_h, initG_t, initG_h, iniR, List.getElem?_nil, ev_tmp, ev_const, ev_global, ev_func, hall_at, Go.Ab.tt, Go.Ab.th, Go.Ab.ht, Go.Ab.hh, init_t, init_h, kn_tt, kn_th, kn_ht, kn_hh, kn_nil, List.getD_cons_zero, List.getD_cons_succ, Nat.reduceEqDiff, reduceIte, true_or, or_true, false_or, or_false, Nat.zero_le, List.flatten_cons, List.flatten_nil, anew, app_u, ← List.map_append, List.length_append, List.replicate_zero, ← rep_map, ← List.map_set, genOf_blk, all_u32, fz_u32, ← List.map_take, ← List.map_drop, List.length_take, List.length_drop, List.length_set, List.reduceReplicate, List.all_cons, List.all_nil, List.all_append, Bool.and_true, Bool.true_and, AV.one, oneV, AV.cellsA, setAt, List.set_cons_zero, List.set_cons_succ, List.length_cons, List.length_nil, Nat.reduceAdd, Nat.reduceLeDiff, Nat.reduceMul, Nat.reduceLT, Nat.reducePow, Nat.reduceSub, true_and, and_true, and_self, ne_eq, not_false_eq_true, afill, abuildN, zrow, List.headD_cons, fzn, AV.fz, Value.cells, alen, arow, List.length_replicate, List.cons_append, List.nil_append, List.append_nil, List.take_succ_cons, List.take_zero, List.drop_succ_cons, Go.Ab.pOf, upsOf, asg, nmO, nmI, KA, AV.ren, AV.renL, and_self, false_and, Bool.false_eq_true, aload1, aloadN, acutN, astoreN, abuildSliceN, amakeN, afaN, afd1, afdN, aixN, aslcN, aslcS, aixS_at, alenN, alenS, aappN, acpyN, al26, st26, ld26, bs45, ln45, ix45, ld30, bd26, cv22_54, bs24, fa26_0, ld4, beql4, fa26_1, ld24, fa26_2, ln24, ap24, ix24, ld54, cv54_22, st4, ln9, sc9, ixs9, cv3_55, mk24, st54, cv22_3, cp24, sc24v, sc24h, sc24n, cv3_22, bneq4, cv22_2, ld5, cv5_3, cv54_5, cv54_2, cv2_54, cv5_54, ln120, ix120, cv3_5, cv5_22, al126, cv22_5, ld3, ld85, bd135, ld22, st5, ap120, cv2_22, mk120, bd146, cv55_54, st147, st106, st138, st85])
  with_reducible apply r_ret
  simp (disch := first | omega | (simp only [List.length_append, List.length_cons, List.length_nil, List.length_take, List.length_drop, List.length_set, List.length_replicate]; omega)) only [retv, ares, tupA, frz, frzL, ret_some, a_nil, a_move, a_assign, a_pick, a_alloc, a_box, a_build, a_buildSlice, a_load, a_store, a_bin, a_un, a_conv, a_make, a_slice, a_fieldAddr, a_field, a_indexAddr, a_index, a_extract, a_len, a_max, a_min, mx_l, mx_g, mn_l, mn_g, a_append, a_copy, a_call, a_guard, a_then, av_some, g_yes, g_tf, g_ft, g_no, put, fzs_nil, fzs_cons, appH_nil, appH_cons, bne_self_eq_false, not_true_eq_false, Bool.true_and, Bool.false_and, Bool.and_true, Bool.and_false, abin, ibin, aun, aextract, bnd, Option.map_some, Option.map_none, beq_i, bne_i, tdv, tmd, fdv, wru32, wru64, wru8, IntKind.bits, Int.reduceToNat, min_l, Int.reducePow, Int.reduceMul, Int.reduceAdd, Int.reduceNeg, Int.reduceLT, Int.reduceLE, Int.reduceEq, Int.cast_ofNat_Int, dec_t, dec_f, ite_t, ite_f, get_i, apick_t, apick_f, wr_i64, emod_fit, take_all, List.take_take, Nat.min_self, ayield, ayv_b, ayv_u, Option.bind_some, List.map_cons, List.map_nil, List.getElem?_toArray, List.getElem?_cons_zero, List.getElem?_cons_succ, List.length_map, List.getElem?_drop, List.getElem?_map, Nat.mul_one, Nat.one_mul, Nat.zero_mul, Nat.zero_add, Nat.add_zero, Int.toNat_zero, Int.toNat_natCast, Int.toNat_one, tn1, tn2, tns1, sub_mid, AV.to, AV.toL, Nat.sub_self, getD_mid, set_mid, tnn2, tns, tn21, ndiv32, nmod32, cs2, sub21, sub22, or64, or64', Go.Ab.cs, decide_true, decide_false, Int.add_sub_cancel, Nat.sub_zero, List.drop_zero, Bool.false_eq_true, Bool.not_true, Bool.not_false, frz, frzL, List.map_nil, Nat.reduceLeDiff, initH_t, initH_h, initG_t, initG_h, iniR, List.getElem?_nil, ev_tmp, ev_const, ev_global, ev_func, hall_at, Go.Ab.tt, Go.Ab.th, Go.Ab.ht, Go.Ab.hh, init_t, init_h, kn_tt, kn_th, kn_ht, kn_hh, kn_nil, List.getD_cons_zero, List.getD_cons_succ, Nat.reduceEqDiff, reduceIte, true_or, or_true, false_or, or_false, Nat.zero_le, List.flatten_cons, List.flatten_nil, anew, app_u, ← List.map_append, List.length_append, List.replicate_zero, ← rep_map, ← List.map_set, genOf_blk, all_u32, fz_u32, ← List.map_take, ← List.map_drop, List.length_take, List.length_drop, List.length_set, List.reduceReplicate, List.all_cons, List.all_nil, List.all_append, Bool.and_true, Bool.true_and, AV.one, oneV, AV.cellsA, setAt, List.set_cons_zero, List.set_cons_succ, List.length_cons, List.length_nil, Nat.reduceAdd, Nat.reduceLeDiff, Nat.reduceMul, Nat.reduceLT, Nat.reducePow, Nat.reduceSub, true_and, and_true, and_self, ne_eq, not_false_eq_true, afill, abuildN, zrow, List.headD_cons, fzn, AV.fz, Value.cells, alen, arow, List.length_replicate, List.cons_append, List.nil_append, List.append_nil, List.take_succ_cons, List.take_zero, List.drop_succ_cons, Go.Ab.pOf, upsOf, asg, nmO, nmI, KA, AV.ren, AV.renL, and_self, false_and, Bool.false_eq_true, aload1, aloadN, acutN, astoreN, abuildSliceN, amakeN, afaN, afd1, afdN, aixN, aslcN, aslcS, aixS_at, alenN, alenS, aappN, acpyN, al26, st26, ld26, bs45, ln45, ix45, ld30, bd26, cv22_54, bs24, fa26_0, ld4, beql4, fa26_1, ld24, fa26_2, ln24, ap24, ix24, ld54, cv54_22, st4, ln9, sc9, ixs9, cv3_55, mk24, st54, cv22_3, cp24, sc24v, sc24h, sc24n, cv3_22, bneq4, cv22_2, ld5, cv5_3, cv54_5, cv54_2, cv2_54, cv5_54, ln120, ix120, cv3_5, cv5_22, al126, cv22_5, ld3, ld85, bd135, ld22, st5, ap120, cv2_22, mk120, bd146, cv55_54, st147, st106, st138, st85, Tryz.results3, Tryz.results4, Tryz.results5, Tryz.results6, Tryz.results7, Tryz.results8, Tryz.results9, Tryz.results10, Tryz.results11, Tryz.results12, Tryz.results13, Tryz.results14, Tryz.results15, Tryz.results16, Tryz.results17, Tryz.results18, Tryz.results19, Tryz.results20, Tryz.results21, Tryz.results22, Tryz.results23, Tryz.results24, Tryz.results25, Tryz.results26, Tryz.results28, Tryz.results29, Tryz.results30, Tryz.results31, Tryz.results32, Tryz.results33, Tryz.results34, Tryz.results35, Tryz.results36, Tryz.results37, Tryz.results39, Tryz.results40, Tryz.results41, Tryz.results42, Tryz.results43, Tryz.results44, Tryz.results45, Tryz.results50, Tryz.results58, Tryz.results59, Tryz.results60, Tryz.results61, Tryz.results62, Tryz.results63, Tryz.results64, Tryz.results65, Tryz.results66, Tryz.results67, Tryz.results68, Tryz.results69, Tryz.results70, Tryz.results71, Tryz.results72, Tryz.results73, Tryz.results74, Tryz.results75, Tryz.results76, Tryz.results77, Tryz.results78, Tryz.results79, Tryz.results80, Tryz.results81, Tryz.results82, Tryz.results83, Tryz.results94, Tryz.results95, Tryz.results96, Tryz.results97, Tryz.results98, Tryz.results125, Tryz.results128]
  with_reducible apply wk_eq
  exact x_) : p := h x
end Go.Ab
end
