import Derived.Test.YtiamjfckgmnijaaDoorFtFt15
import Derived.Test.YtiamjfckgmnijaaDoorFtFt10
import Derived.Test.YtiamjfckgmnijaaDoorFtFj4
set_option linter.all false
section
namespace Go.Ab
open Go Go.Proofs Go.RowKit Go.Sort Go.Lib
set_option maxRecDepth 100000
set_option maxHeartbeats 4000000
theorem at_p (l r : List UInt8) : ((l ++ 112 :: r).getD l.length 0).toNat = 112 := by
  rw [List.getD_eq_getElem?_getD, List.getElem?_append_right (Nat.le_refl _), Nat.sub_self]
  rfl
theorem at_l (c : UInt8) (l r : List UInt8) (h : ∀ b ∈ l, b ≠ 112) : ∀ n, 1 ≤ n → n < 1 + l.length → ((c :: (l ++ r)).getD n 0).toNat ≠ 112 := by
  intro n h1 h2 e
  obtain ⟨k, rfl⟩ : ∃ k, n = k + 1 := ⟨n - 1, by omega⟩
  have hk : k < l.length := by omega
  rw [List.getD_cons_succ, List.getD_eq_getElem?_getD, List.getElem?_append_left hk, List.getElem?_eq_getElem hk] at e
  refine h _ (List.getElem_mem hk) ?_
  have e' : l[k].toNat = 112 := e
  exact UInt8.toNat.inj (by rw [e']; rfl)
theorem mid_d (c : UInt8) (m : Nat) (r : List UInt8) : (⟨(c :: (decDigits m ++ 112 :: r)).toArray⟩ : ByteArray).extract 1 (1 + (decDigits m).length) = ⟨(decDigits m).toArray⟩ := by
  rw [ba_extract]
  congr 2
  rw [List.drop_succ_cons, List.drop_zero, show 1 + (decDigits m).length - 1 = (decDigits m).length by omega, List.take_left]
theorem dec_all (u : Nat) : (decDigits u).all isD = true := List.all_eq_true.2 fun b hb => decide_eq_true (dec_digit u u (Nat.le_refl _) b hb)
theorem dig_ok (u : Nat) (N : Int) (h : ((decDigits u).length : Int) ≤ N) (hN : N ≤ 16) : Spec Tryd.prog 45 [.sc (.string ⟨(decDigits u).toArray⟩), .sc (.int .i64 N)] (.tup [.sc (.int .i64 u), .sc (.bool true)]) := by
  have sz : (⟨(decDigits u).toArray⟩ : ByteArray).size = (decDigits u).length := sz_l _
  have z3 : 1 ≤ (decDigits u).length := by
    rcases hd : decDigits u with _ | ⟨c, l⟩
    · exact (dec_ne u hd).elim
    · simp
  have h1 := q_digits_ok ⟨(decDigits u).toArray⟩ N (by omega) hN (by
    rw [show (⟨(decDigits u).toArray⟩ : ByteArray).data.toList = decDigits u from rfl, dec_all, decide_eq_true (by omega)]
    rfl)
  rw [show (⟨(decDigits u).toArray⟩ : ByteArray).data.toList = decDigits u from rfl, dv_dec u u (Nat.le_refl _)] at h1
  exact h1
theorem qr_good (x : Nat) (hx : x < 18446744073709551616) (m : Nat) (e : Int) (TX0 : TX x (txt (sgx x) m e)) (hj : jr m e = rg x) (hm : m < 9007199254740992) (h0 : -1074 ≤ e) (h1 : e ≤ 1100) : Spec Tryd.prog 23 [.sc (.string (txt (sgx x) m e))] (.tup [u64 x, .sc (.int .i64 0)]) := by
  have z1 := dec_len 15 m (by omega)
  have z2 := itoa_len (e := e) (by omega) (by omega)
  have z3 : 1 ≤ (decDigits m).length := by
    rcases hd : decDigits m with _ | ⟨c, l⟩
    · exact (dec_ne m hd).elim
    · simp
  have zs := txt_size (sgx x) m e
  have eB : (txt (sgx x) m e).extract (1 + (decDigits m).length + 1) (txt (sgx x) m e).size = ⟨(itoa e).toArray⟩ := cut_r _ _ _ _ (by omega)
  have sB : (⟨(itoa e).toArray⟩ : ByteArray).size = (itoa e).length := sz_l _
  have a1 : ((txt (sgx x) m e).toList == (⟨#[110, 97, 110]⟩ : ByteArray).toList) = false := by rw [show (⟨#[110, 97, 110]⟩ : ByteArray).toList = [110, 97, 110] from (Go.ByteArray.toList_eq _).trans rfl]; exact no_nan _ _ _
  have a2 : ((txt (sgx x) m e).toList == (⟨#[43, 105, 110, 102]⟩ : ByteArray).toList) = false := by rw [show (⟨#[43, 105, 110, 102]⟩ : ByteArray).toList = [43, 105, 110, 102] from (Go.ByteArray.toList_eq _).trans rfl]; exact no_inf _ _ _ _
  have a3 : ((txt (sgx x) m e).toList == (⟨#[45, 105, 110, 102]⟩ : ByteArray).toList) = false := by rw [show (⟨#[45, 105, 110, 102]⟩ : ByteArray).toList = [45, 105, 110, 102] from (Go.ByteArray.toList_eq _).trans rfl]; exact no_inf _ _ _ _
  have d1 := dig_ok m 16 (by omega) (by decide)
  rw [← mid_d (sgB (sgx x)) m (itoa e)] at d1
  have hJ := q_Join (sgx x) m e (by omega)
  rw [hj, sw_word hx] at hJ
  have hp : ((txt (sgx x) m e).data.toList.getD (1 + (decDigits m).length) 0).toNat = 112 := by
    have := at_p (sgB (sgx x) :: decDigits m) (itoa e)
    rw [List.length_cons, Nat.add_comm] at this
    exact this
  have hf : ∀ n, 1 ≤ n → n < 1 + (decDigits m).length → ((txt (sgx x) m e).data.toList.getD n 0).toNat ≠ 112 := at_l _ _ _ fun b hb => ne_p (dec_digit m m (Nat.le_refl _) b hb)
  have hs : ((txt (sgx x) m e).data.toList.getD 0 0).toNat = 45 ↔ sgx x = true := by
    show (sgB (sgx x)).toNat = 45 ↔ _
    cases sgx x <;> decide
  by_cases he : e < 0
  · obtain ⟨k, rfl⟩ : ∃ k : Nat, e = -(k : Int) := ⟨e.natAbs, by omega⟩
    have ei := itoa_neg k (by omega)
    rw [ei] at eB sB z2 zs
    have d2 := dig_ok k 4 (by simp at z2; omega) (by decide)
    have eu : (⟨(45 :: decDigits k).toArray⟩ : ByteArray).extract 1 (⟨(45 :: decDigits k).toArray⟩ : ByteArray).size = ⟨(decDigits k).toArray⟩ := cut_1 _ _ _ (by rw [sz_l]; simp)
    refine q_Read_ok1 _ (by omega) a1 a2 a3 (1 + (decDigits m).length) (by omega) (by omega) hp hf m k true true _ d1 d2 (by omega) (by omega) true (fun h => by cases h) (fun _ => ?_) (by rw [eB, sB]; simp at *; omega) rfl rfl x _ (sgx x) (fun h h2 => by rw [hs.1 h2] at h; cases h) (fun h => hs.2 h) (fun h => by cases h) (fun _ => ?_) TX0.2 (by simp)
    · rw [eB]
      exact ⟨by rw [sB]; simp, rfl, eu.symm⟩
    · rw [Int.zero_sub]
      exact hJ
  · obtain ⟨k, rfl⟩ : ∃ k : Nat, e = (k : Int) := ⟨e.toNat, by omega⟩
    have ei := itoa_nonneg k
    rw [ei] at eB sB z2 zs
    have d2 := dig_ok k 4 (by have := dec_len 3 k (by omega); omega) (by decide)
    refine q_Read_ok1 _ (by omega) a1 a2 a3 (1 + (decDigits m).length) (by omega) (by omega) hp hf m k true true _ d1 d2 (by omega) (by omega) false (fun _ => ?_) (fun h => by cases h) (by rw [eB, sB]; omega) rfl rfl x _ (sgx x) (fun h h2 => by rw [hs.1 h2] at h; cases h) (fun h => hs.2 h) (fun _ => hJ) (fun h => by cases h) TX0.2 (by simp)
    rw [eB]
    refine ⟨rfl, fun _ => ?_⟩
    obtain ⟨d, r, hd, ed⟩ := dec_head k k (Nat.le_refl _)
    show ((decDigits k).getD 0 0).toNat ≠ 45
    rw [ed]
    show (UInt8.ofNat (48 + d)).toNat ≠ 45
    rw [digit_nat hd]
    omega
end Go.Ab
end
