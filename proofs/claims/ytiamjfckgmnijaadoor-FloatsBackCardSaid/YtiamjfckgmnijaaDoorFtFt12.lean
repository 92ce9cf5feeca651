import Derived.Test.YtiamjfckgmnijaaDoorFtFt11
import Derived.Test.YtiamjfckgmnijaaDoorFtNe
set_option linter.all false
section
namespace Go.Ab
open Go Go.Proofs Go.RowKit Go.Sort Go.Lib
set_option maxRecDepth 100000
set_option maxHeartbeats 4000000
theorem sr_read (s : ByteArray) (r : Nat) (z : Int) (h : ∀ w, TabOK w M0 → Calls Tryd.prog 22 #[.string s] w (fun e w' => e = .returned (.tuple #[.float .f64 r, .int .i64 z]) ∧ Ext M0 w w')) : Spec Tryd.prog 22 [.sc (.string s)] (.tup [f64 r, .sc (.int .i64 z)]) := by
  refine spec_of_calls Tryd.call22 (by kernel_rfl) fun M w vs hT hr => ?_
  rcases vs with _ | ⟨v1, _ | ⟨v2, vs⟩⟩ <;> simp only [RepL, Rep, and_false, false_and] at hr
  obtain ⟨rfl, _⟩ := hr
  refine (h w (hT.weaken fun _ hb => hb.elim)).mono fun e w' ⟨e1, e2⟩ => ⟨_, e1, ?_, e2⟩
  simp only [Rep]
  exact ⟨#[.float .f64 r, .int .i64 z], rfl, by simp only [RepL, Rep]; exact ⟨trivial, trivial, trivial⟩⟩
theorem len_s' (s : ByteArray) : s.data.toList.length = s.size := by
  rw [Array.length_toList]
  rfl
theorem sgB_ne (b : Bool) : sgB b ≠ 112 := by cases b <;> decide
theorem txt_list (b : Bool) (m : Nat) (e : Int) : (txt b m e).data.toList = sgB b :: (decDigits m ++ 112 :: itoa e) := rfl
theorem txt_size (b : Bool) (m : Nat) (e : Int) : (txt b m e).size = 1 + (decDigits m).length + 1 + (itoa e).length := by
  rw [← len_s', txt_list]
  simp
  omega
theorem sw_word {x : Nat} (hx : x < 18446744073709551616) : sw (sgx x) (rg x) = x := by
  rw [sgx_eq hx]
  unfold sw rg
  by_cases h : 9223372036854775808 ≤ x
  · rw [decide_eq_true h, if_pos rfl]; omega
  · rw [decide_eq_false h, if_neg (by decide)]; omega
theorem no_nan (b : Bool) (m : Nat) (e : Int) : ((txt b m e).toList == [110, 97, 110]) = false := by
  rw [Go.ByteArray.toList_eq, txt_list]
  cases b <;> rfl
theorem no_inf (b : Bool) (c : UInt8) (m : Nat) (e : Int) : ((txt b m e).toList == [c, 105, 110, 102]) = false := by
  obtain ⟨d, r, hd, ed⟩ := dec_head m m (Nat.le_refl _)
  rw [Go.ByteArray.toList_eq, txt_list, ed]
  have h : (UInt8.ofNat (48 + d) == 105) = false := by
    have h2 := digit_nat hd
    rw [beq_eq_false_iff_ne]
    intro h3
    rw [h3] at h2
    have : (105 : UInt8).toNat = 105 := rfl
    omega
  show (sgB b == c && (UInt8.ofNat (48 + d) == 105 && _)) = false
  rw [h]
  simp
theorem sb_neq (a b : ByteArray) : sbin .neq a b = some (.bool (!(a.toList == b.toList))) := rfl
theorem sb_eql' (a b : ByteArray) : sbin .eql a b = some (.bool (a.toList == b.toList)) := rfl
theorem pr_nil1 : pureRun Tryd.prog (do eqGuard .neq 67 (.tmp 56) (.const .nilIface) .nilIface .nilIface; binOp .neq 67 .nilIface .nilIface) = some (.bool false) := by kernel_rfl
theorem pr_nil2 : pureRun Tryd.prog (do eqGuard .neq 67 (.tmp 59) (.const .nilIface) .nilIface .nilIface; binOp .neq 67 .nilIface .nilIface) = some (.bool false) := by kernel_rfl
theorem fr_good (x : Nat) (hx : x < 18446744073709551616) (m : Nat) (e : Int) (TX0 : TX x (txt (sgx x) m e)) (hj : jr m e = rg x) (hm : m < 9007199254740992) (h0 : -1074 ≤ e) (h1 : e ≤ 1100) : Spec Tryd.prog 22 [.sc (.string (txt (sgx x) m e))] (.tup [f64 x, .sc (.int .i64 0)]) := by
  have z1 := dec_len 15 m (by omega)
  have z2 := itoa_len (e := e) (by omega) (by omega)
  have z3 : 1 ≤ (decDigits m).length := by
    rcases hd : decDigits m with _ | ⟨c, l⟩
    · exact (dec_ne m hd).elim
    · simp
  have zs := txt_size (sgx x) m e
  have hi : Lib.indexByte (txt (sgx x) m e).data.toList 112 = ((1 + (decDigits m).length : Nat) : Int) := by
    rw [txt_list]
    exact idx_txt _ (sgB_ne _) m _
  have hC := s_Cut (txt (sgx x) m e) _ hi (by omega) (by omega)
  have eA : (txt (sgx x) m e).extract 0 (1 + (decDigits m).length) = ⟨(sgB (sgx x) :: decDigits m).toArray⟩ := cut_l _ _ _
  have eB : (txt (sgx x) m e).extract (1 + (decDigits m).length + 1) (txt (sgx x) m e).size = ⟨(itoa e).toArray⟩ := cut_r _ _ _ _ (by omega)
  rw [eA, eB] at hC
  have sA : (⟨(sgB (sgx x) :: decDigits m).toArray⟩ : ByteArray).size = 1 + (decDigits m).length := by rw [sz_l, List.length_cons]; omega
  have sB : (⟨(itoa e).toArray⟩ : ByteArray).size = (itoa e).length := sz_l _
  have sD : (⟨(decDigits m).toArray⟩ : ByteArray).size = (decDigits m).length := sz_l _
  have eD : (⟨(sgB (sgx x) :: decDigits m).toArray⟩ : ByteArray).extract 1 (⟨(sgB (sgx x) :: decDigits m).toArray⟩ : ByteArray).size = ⟨(decDigits m).toArray⟩ := cut_1 _ _ _ (by rw [sA]; omega)
  have hp := s_ParseUint_ok ⟨(decDigits m).toArray⟩ m (by omega) (parse_uint (by omega))
  have hq := s_Atoi_ok ⟨(itoa e).toArray⟩ e (by omega) (atoi_itoa (by omega) (by omega))
  rw [← eD] at hp
  have hJ := s_Join (sgx x) m e (by omega) (by omega)
  rw [hj, sw_word hx] at hJ
  have hs : (((⟨(sgB (sgx x) :: decDigits m).toArray⟩ : ByteArray).data.toList.getD 0 0).toNat = 45 ↔ sgx x = true) := by
    show (sgB (sgx x)).toNat = 45 ↔ _
    cases sgx x <;> decide
  have a1 := no_nan (sgx x) m e
  have a2 := no_inf (sgx x) 43 m e
  have a3 := no_inf (sgx x) 45 m e
  have hX := TX0.1
  generalize txt (sgx x) m e = s at *
  generalize (⟨(sgB (sgx x) :: decDigits m).toArray⟩ : ByteArray) = a at *
  generalize (⟨(itoa e).toArray⟩ : ByteArray) = b at *
  refine spec_of_awp mixed Tryd.func22 rfl Tryd.call22 (by kernel_rfl) (by simp) rfl ?_
  refine T ?_
  rw [sb_eql', show (⟨#[110, 97, 110]⟩ : ByteArray).toList = [110, 97, 110] from (Go.ByteArray.toList_eq _).trans rfl, a1, Option.map_some]
  refine T ?_
  rw [sb_eql', show (⟨#[43, 105, 110, 102]⟩ : ByteArray).toList = [43, 105, 110, 102] from (Go.ByteArray.toList_eq _).trans rfl, a2, Option.map_some]
  refine T ?_
  rw [sb_eql', show (⟨#[45, 105, 110, 102]⟩ : ByteArray).toList = [45, 105, 110, 102] from (Go.ByteArray.toList_eq _).trans rfl, a3, Option.map_some]
  refine T (call_by hC ?_)
  refine T (call_by hp ?_)
  refine T (call_by hq ?_)
  refine T ?_
  rw [pr_nil1, Option.map_some]
  refine T ?_
  rw [pr_nil2, Option.map_some]
  clear hC hp hq hi eA eB eD a1 a2 a3
  cases hb : sgx x
  · rw [hb] at hs hJ
    have hs0 : (a.data.toList.getD 0 0).toNat ≠ 45 := fun h => by have := hs.1 h; cases this
    refine T ?_
    generalize hc0 : (a.data.toList.getD 0 0).toNat = c0 at *
    refine T (call_by hJ ?_)
    refine T (call_by hX ?_)
    refine T ?_
    rw [sb_neq, show (s.toList == s.toList) = true by simp, Option.map_some]
    refine T (r_ret ?_)
    rw [Tryd.results22]
    refine R ?_
    exact Wk.refl _
  · rw [hb] at hs hJ
    have hs0 : (a.data.toList.getD 0 0).toNat = 45 := hs.2 rfl
    refine T ?_
    generalize hc0 : (a.data.toList.getD 0 0).toNat = c0 at *
    refine T (call_by hJ ?_)
    refine T (call_by hX ?_)
    refine T ?_
    rw [sb_neq, show (s.toList == s.toList) = true by simp, Option.map_some]
    refine T (r_ret ?_)
    rw [Tryd.results22]
    refine R ?_
    exact Wk.refl _
end Go.Ab
end
