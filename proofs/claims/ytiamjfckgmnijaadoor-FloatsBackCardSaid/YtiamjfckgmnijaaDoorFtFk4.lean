import Derived.Test.YtiamjfckgmnijaaDoorFtFk3
import Derived.Test.YtiamjfckgmnijaaDoorFtNb
set_option linter.all false
section
namespace Go.Ab
open Go Go.Proofs Go.Proofs.YtiamjfckgmnijaaDoor.Pl
set_option maxRecDepth 100000
set_option maxHeartbeats 8000000
theorem k_forget {P : Program} {B : Nat} {ops : Array Oper} {K : S → Prop} {rest : List Oper} {s : S} {d : Option Tmp} {f : FuncId} {raw : List AV} {x : Option (List AV × List Nat)} (l : List (Loc × AV)) (h : Has l s) (hK : ∀ r, ACall P B ops K rest (kn l r) d f raw x) : ACall P B ops K rest s d f raw x := by
  have := hK s
  rwa [kn_self h] at this
theorem back_nan (hw : Spec Tryd.prog 9 [] (.sc (.bool true))) (x : Nat) (hx : x < 18446744073709551616) (h1 : 9218868437227405312 < rg x) : Spec Tryd.prog 8 [u64 x] (.sc (.bool true)) := by
  refine spec_of_awp mixed Tryd.func8 rfl Tryd.call8 (by kernel_rfl) (by simp) rfl ?_
  have c1 := s_Next x hx
  have c2 := s_Prev x hx
  rw [show nextW x = 9221120237041090561 by unfold nextW; rw [if_pos h1]] at c1
  rw [show prevW x = 9221120237041090561 by unfold prevW; rw [if_pos h1]] at c2
  refine T (call_by hw ?_)
  refine T (call_by (s_of x) ?_)
  refine T (call_by (tx_nan x hx h1).1 ?_)
  refine T (call_by fr_nan ?_)
  refine T ?_
  rw [pr_ne, Option.map_some, ne_self, decide_eq_true h1]
  refine T ?_
  rw [pr_ne, Option.map_some, show (Ieee.double.order 9221120237041090561 9221120237041090561 != some .eq) = true by rw [ne_self]; decide]
  refine T (call_by c1 ?_)
  refine T (call_by (s_bits 9221120237041090561) ?_)
  refine T (call_by c2 ?_)
  refine T (call_by (s_bits 9221120237041090561) ?_)
  exact TR rfl
theorem back_inf (hw : Spec Tryd.prog 9 [] (.sc (.bool true))) (x : Nat) (hx : x < 18446744073709551616) (h1 : rg x = 9218868437227405312) : Spec Tryd.prog 8 [u64 x] (.sc (.bool true)) := by
  obtain ⟨t, cT, cR⟩ := read_self x hx (by omega)
  have h1' : rg x = x % 9223372036854775808 := rfl
  have cP := s_PartsA x hx (by omega)
  have cE := s_ExactA x cP
  have hx2 : x = 9218868437227405312 ∨ x = 18442240474082181120 := by omega
  refine spec_of_awp mixed Tryd.func8 rfl Tryd.call8 (by kernel_rfl) (by simp) rfl ?_
  refine T (call_by hw ?_)
  refine T (call_by (s_of x) ?_)
  refine T (call_by cT ?_)
  refine T (call_by cR ?_)
  refine T ?_
  rw [pr_ne, Option.map_some, ne_self, decide_eq_false (by omega)]
  refine T (call_by (s_bits x) ?_)
  refine T (k_forget [(.t 0, u64 x), (.t 3, f64 x)] (Hk rfl <| Hk rfl trivial) fun _ => call_by cP ?_)
  refine T (k_forget [(.t 0, u64 x), (.t 3, f64 x)] (Hk rfl <| Hk rfl trivial) fun _ => call_by cE ?_)
  refine T (k_forget [(.t 0, u64 x), (.t 3, f64 x)] (Hk rfl <| Hk rfl trivial) fun _ => call_by (s_Next x hx) ?_)
  refine T (call_by (s_Prev x hx) ?_)
  refine T ?_
  rw [pr_gt, Option.map_some, gt_max hx (by omega)]
  rcases hx2 with rfl | rfl
  · rw [decide_eq_true rfl, show nextW 9218868437227405312 = 9218868437227405312 by decide, show prevW 9218868437227405312 = 9218868437227405311 by decide]
    refine T (call_by (s_bits 9218868437227405312) ?_)
    have c := s_Next 9218868437227405311 (by decide)
    rw [show nextW 9218868437227405311 = 9218868437227405312 by decide] at c
    refine T (call_by c ?_)
    refine T (call_by (s_bits 9218868437227405312) ?_)
    exact TR rfl
  · rw [decide_eq_false (by decide), show nextW 18442240474082181120 = 18442240474082181119 by decide, show prevW 18442240474082181120 = 18442240474082181120 by decide]
    refine T ?_
    rw [pr_lt, Option.map_some, lt_min hx (by omega), decide_eq_true rfl]
    refine T (call_by (s_bits 18442240474082181120) ?_)
    have c := s_Prev 18442240474082181119 (by decide)
    rw [show prevW 18442240474082181119 = 18442240474082181120 by decide] at c
    refine T (call_by c ?_)
    refine T (call_by (s_bits 18442240474082181120) ?_)
    exact TR rfl
theorem back_fin (hw : Spec Tryd.prog 9 [] (.sc (.bool true))) (x : Nat) (hx : x < 18446744073709551616) (h1 : rg x < 9218868437227405312) (b : Bool) (m : Nat) (e : Int) (cP : Spec Tryd.prog 13 [f64 x] (.tup [.sc (.bool b), u64 m, .sc (.int .i64 e), .sc (.int .i64 0)]))
    (cJ : Spec Tryd.prog 16 [.sc (.bool b), u64 m, .sc (.int .i64 e)] (f64 x)) (hm : m % 2 = 1 ∨ m = 0) (p : Bool × List Int × List Int) (g : Int) (cE : Spec Tryd.prog 26 [f64 x] (resR (p, g)))
    (hg : g = 4 ∨ (g = 0 ∧ ∃ y, Spec Tryd.prog 27 [RA p.1 p.2.1 p.2.2] (.tup [f64 y, .sc (.int .i64 0)]) ∧ (Ieee.double.order y x != some .eq) = false)) : Spec Tryd.prog 8 [u64 x] (.sc (.bool true)) := by
  obtain ⟨t, cT, cR⟩ := read_self x hx (by omega)
  have h1' : rg x = x % 9223372036854775808 := rfl
  obtain ⟨n1, n2, n3⟩ := prev_next hx h1
  obtain ⟨p1, p2, p3⟩ := next_prev hx h1
  have cN := s_Next x hx
  have cV := s_Prev x hx
  have cNV := s_Prev _ (next_lt hx)
  have cVN := s_Next _ (prev_lt hx)
  rw [n1] at cNV
  rw [p1] at cVN
  generalize nextW x = u at *
  generalize prevW x = v at *
  refine spec_of_awp mixed Tryd.func8 rfl Tryd.call8 (by kernel_rfl) (by simp) rfl ?_
  refine T (call_by hw ?_)
  refine T (call_by (s_of x) ?_)
  refine T (call_by cT ?_)
  refine T (call_by cR ?_)
  refine T ?_
  rw [pr_ne, Option.map_some, ne_self, decide_eq_false (by omega)]
  refine T (call_by (s_bits x) ?_)
  refine T (k_forget [(.t 0, u64 x), (.t 3, f64 x)] (Hk rfl <| Hk rfl trivial) fun _ => call_by cP ?_)
  refine T (call_by cJ ?_)
  refine T (call_by (s_bits x) ?_)
  rcases hm with hm | hm
  · rcases hg with rfl | ⟨rfl, y, cY, hy⟩
    · refine T (k_forget [(.t 0, u64 x), (.t 3, f64 x)] (Hk rfl <| Hk rfl trivial) fun _ => call_by cE ?_)
      refine T (k_forget [(.t 0, u64 x), (.t 3, f64 x)] (Hk rfl <| Hk rfl trivial) fun _ => call_by cN ?_)
      refine T (call_by cV ?_)
      refine T ?_
      rw [pr_gt, Option.map_some, gt_max hx (by omega), decide_eq_false (by omega)]
      refine T ?_
      rw [pr_lt, Option.map_some, lt_min hx (by omega), decide_eq_false (by omega)]
      refine T (call_by cNV ?_)
      refine T (call_by (s_bits x) ?_)
      refine T (call_by cVN ?_)
      refine T (call_by (s_bits x) ?_)
      refine T ?_
      rw [pr_ge, Option.map_some, ge_ok (by omega) n2 n3]
      refine T ?_
      rw [pr_le, Option.map_some, le_ok (by omega) p2 p3]
      exact TR rfl
    · refine T (k_forget [(.t 0, u64 x), (.t 3, f64 x)] (Hk rfl <| Hk rfl trivial) fun _ => call_by cE ?_)
      refine T (call_by cY ?_)
      refine T ?_
      rw [pr_ne, Option.map_some, hy]
      refine T (k_forget [(.t 0, u64 x), (.t 3, f64 x)] (Hk rfl <| Hk rfl trivial) fun _ => call_by cN ?_)
      refine T (call_by cV ?_)
      refine T ?_
      rw [pr_gt, Option.map_some, gt_max hx (by omega), decide_eq_false (by omega)]
      refine T ?_
      rw [pr_lt, Option.map_some, lt_min hx (by omega), decide_eq_false (by omega)]
      refine T (call_by cNV ?_)
      refine T (call_by (s_bits x) ?_)
      refine T (call_by cVN ?_)
      refine T (call_by (s_bits x) ?_)
      refine T ?_
      rw [pr_ge, Option.map_some, ge_ok (by omega) n2 n3]
      refine T ?_
      rw [pr_le, Option.map_some, le_ok (by omega) p2 p3]
      exact TR rfl
  · subst hm
    rcases hg with rfl | ⟨rfl, y, cY, hy⟩
    · refine T (k_forget [(.t 0, u64 x), (.t 3, f64 x)] (Hk rfl <| Hk rfl trivial) fun _ => call_by cE ?_)
      refine T (k_forget [(.t 0, u64 x), (.t 3, f64 x)] (Hk rfl <| Hk rfl trivial) fun _ => call_by cN ?_)
      refine T (call_by cV ?_)
      refine T ?_
      rw [pr_gt, Option.map_some, gt_max hx (by omega), decide_eq_false (by omega)]
      refine T ?_
      rw [pr_lt, Option.map_some, lt_min hx (by omega), decide_eq_false (by omega)]
      refine T (call_by cNV ?_)
      refine T (call_by (s_bits x) ?_)
      refine T (call_by cVN ?_)
      refine T (call_by (s_bits x) ?_)
      refine T ?_
      rw [pr_ge, Option.map_some, ge_ok (by omega) n2 n3]
      refine T ?_
      rw [pr_le, Option.map_some, le_ok (by omega) p2 p3]
      exact TR rfl
    · refine T (k_forget [(.t 0, u64 x), (.t 3, f64 x)] (Hk rfl <| Hk rfl trivial) fun _ => call_by cE ?_)
      refine T (call_by cY ?_)
      refine T ?_
      rw [pr_ne, Option.map_some, hy]
      refine T (k_forget [(.t 0, u64 x), (.t 3, f64 x)] (Hk rfl <| Hk rfl trivial) fun _ => call_by cN ?_)
      refine T (call_by cV ?_)
      refine T ?_
      rw [pr_gt, Option.map_some, gt_max hx (by omega), decide_eq_false (by omega)]
      refine T ?_
      rw [pr_lt, Option.map_some, lt_min hx (by omega), decide_eq_false (by omega)]
      refine T (call_by cNV ?_)
      refine T (call_by (s_bits x) ?_)
      refine T (call_by cVN ?_)
      refine T (call_by (s_bits x) ?_)
      refine T ?_
      rw [pr_ge, Option.map_some, ge_ok (by omega) n2 n3]
      refine T ?_
      rw [pr_le, Option.map_some, le_ok (by omega) p2 p3]
      exact TR rfl
theorem l_FloatsBack (hw : Spec Tryd.prog 9 [] (.sc (.bool true))) (x : Nat) (hx : x < 18446744073709551616) : Spec Tryd.prog 8 [u64 x] (.sc (.bool true)) := by
  rcases Nat.lt_trichotomy (rg x) 9218868437227405312 with h1 | h1 | h1
  · rcases Nat.eq_zero_or_pos (rg x) with h0 | h0
    · have cJ := s_Join (sgx x) 0 0 (by decide) (by decide)
      rw [show jr 0 0 = rg x by rw [h0]; rfl, sw_word hx] at cJ
      obtain ⟨cE, cN⟩ := exact_zero x hx h0
      exact back_fin hw x hx h1 (sgx x) 0 0 (s_PartsB x hx h0) cJ (.inr rfl) _ 0 cE (.inr ⟨rfl, 0, cN, ne_key (by omega) (by decide) (by rw [key_zero h0]; rfl)⟩)
    · obtain ⟨k, w, hm⟩ := odd_part _ (mg (rg x)) (Nat.le_refl _) (mg_pos h0)
      obtain ⟨r1, r2, r3⟩ := rejoin h0 h1 hm
      have cJ := s_Join (sgx x) (2 * k + 1) ((w : Int) - 1074) (by omega) (by omega)
      rw [r1, sw_word hx] at cJ
      rcases exact_fin x k w hx h0 h1 hm with cE | ⟨n, d, cE, cN⟩
      · exact back_fin hw x hx h1 (sgx x) _ _ (s_Parts1 x k w hx h0 h1 hm) cJ (.inl (by omega)) _ 4 cE (.inl rfl)
      · exact back_fin hw x hx h1 (sgx x) _ _ (s_Parts1 x k w hx h0 h1 hm) cJ (.inl (by omega)) _ 0 cE (.inr ⟨rfl, x, cN, ne_key (by omega) (by omega) rfl⟩)
  · exact back_inf hw x hx h1
  · exact back_nan hw x hx h1
end Go.Ab
end
