import Derived.Test.YtiamjfckgmnijaaDoorFtFt17
set_option linter.all false
section
namespace Go.Ab
open Go Go.Proofs Go.RowKit Go.Sort Go.Lib
set_option maxRecDepth 100000
set_option maxHeartbeats 4000000
theorem first_p (l : List UInt8) : ∀ k, (∀ n, 1 ≤ n → n < k → (l.getD n 0).toNat ≠ 112) ∨ ∃ i, 1 ≤ i ∧ i < k ∧ (l.getD i 0).toNat = 112 ∧ ∀ n, 1 ≤ n → n < i → (l.getD n 0).toNat ≠ 112
  | 0 => .inl fun n h1 h2 => by omega
  | k + 1 => by
    rcases first_p l k with h | ⟨i, h1, h2, h3, h4⟩
    · by_cases hk : 1 ≤ k ∧ (l.getD k 0).toNat = 112
      · exact .inr ⟨k, hk.1, by omega, hk.2, h⟩
      · left
        intro n h1 h2 h3
        rcases Nat.lt_or_ge n k with h5 | h5
        · exact h n h1 h5 h3
        · have : n = k := by omega
          subst this
          exact hk ⟨h1, h3⟩
    · exact .inr ⟨i, h1, by omega, h3, h4⟩
theorem dig_any (t : ByteArray) (N : Int) (k : Nat) (hN : N = k) (hk : k ≤ 16) (hs : t.size ≤ 140737488355328) : ∃ (v : Nat) (o : Bool), Spec Tryd.prog 45 [.sc (.string t), .sc (.int .i64 N)] (.tup [.sc (.int .i64 v), .sc (.bool o)]) ∧ v < 10 ^ k := by
  have hlen := len_s t
  by_cases h : (t.data.toList.all isD && decide (0 < t.size)) = true ∧ (t.size : Int) ≤ N
  · refine ⟨_, true, q_digits_ok t N h.2 (by omega) h.1, ?_⟩
    have h1 := dv_lt (Bool.and_eq_true_iff.1 h.1).1 t.data.toList.length (Nat.le_refl _)
    rw [List.take_length] at h1
    exact Nat.lt_of_lt_of_le h1 (Nat.pow_le_pow_right (by decide) (by omega))
  · refine ⟨0, false, q_digits_no t N hs ?_, Nat.pow_pos (by decide)⟩
    cases hb : (t.data.toList.all isD && decide (0 < t.size))
    · exact .inl rfl
    · right
      rw [hb] at h
      have : ¬ (t.size : Int) ≤ N := fun h2 => h ⟨rfl, h2⟩
      omega
theorem qr_any (s : ByteArray) (hs : s.size ≤ 140737488355328) (a1 : (s.toList == [110, 97, 110]) = false) (a2 : (s.toList == [43, 105, 110, 102]) = false) (a3 : (s.toList == [45, 105, 110, 102]) = false) :
    Spec Tryd.prog 23 [.sc (.string s)] (.tup [.sc (.int .u64 0), .sc (.int .i64 31)]) ∨ ∃ x m e, x < 18446744073709551616 ∧ s = txt (sgx x) m e ∧ TX x (txt (sgx x) m e) ∧ jr m e = rg x ∧ m < 9007199254740992 ∧ -1074 ≤ e ∧ e ≤ 1100 := by
  have n1 : (s.toList == (⟨#[110, 97, 110]⟩ : ByteArray).toList) = false := by rw [show (⟨#[110, 97, 110]⟩ : ByteArray).toList = [110, 97, 110] from (Go.ByteArray.toList_eq _).trans rfl]; exact a1
  have n2 : (s.toList == (⟨#[43, 105, 110, 102]⟩ : ByteArray).toList) = false := by rw [show (⟨#[43, 105, 110, 102]⟩ : ByteArray).toList = [43, 105, 110, 102] from (Go.ByteArray.toList_eq _).trans rfl]; exact a2
  have n3 : (s.toList == (⟨#[45, 105, 110, 102]⟩ : ByteArray).toList) = false := by rw [show (⟨#[45, 105, 110, 102]⟩ : ByteArray).toList = [45, 105, 110, 102] from (Go.ByteArray.toList_eq _).trans rfl]; exact a3
  rcases first_p s.data.toList s.size with hf | ⟨i, h1, h2, hp, hf⟩
  · exact .inl (q_Read_none s hs n1 n2 n3 hf)
  · have hz : (s.extract (i + 1) s.size).size ≤ s.size := by rw [ByteArray.size_extract]; omega
    obtain ⟨v1, o1, d1, b1⟩ := dig_any (s.extract 1 i) 16 16 rfl (by decide) (by rw [ByteArray.size_extract]; omega)
    obtain ⟨bl, u, hu0, hu1, hus⟩ : ∃ (bl : Bool) (u : ByteArray), (bl = false → u = s.extract (i + 1) s.size ∧ (0 < u.size → (u.data.toList.getD 0 0).toNat ≠ 45)) ∧ (bl = true → 0 < (s.extract (i + 1) s.size).size ∧ ((s.extract (i + 1) s.size).data.toList.getD 0 0).toNat = 45 ∧ u = (s.extract (i + 1) s.size).extract 1 (s.extract (i + 1) s.size).size) ∧ u.size ≤ s.size := by
      by_cases hb : 0 < (s.extract (i + 1) s.size).size ∧ ((s.extract (i + 1) s.size).data.toList.getD 0 0).toNat = 45
      · exact ⟨true, _, fun h => (by cases h), fun _ => ⟨hb.1, hb.2, rfl⟩, by rw [ByteArray.size_extract]; omega⟩
      · exact ⟨false, _, fun _ => ⟨rfl, fun h h2 => hb ⟨h, h2⟩⟩, fun h => (by cases h), hz⟩
    obtain ⟨v2, o2, d2, b2⟩ := dig_any u 4 4 rfl (by decide) (by omega)
    by_cases ho : o1 = false ∨ o2 = false
    · exact .inl (q_Read_bad s hs n1 n2 n3 i h1 h2 hp hf v1 v2 o1 o2 u d1 d2 (by omega) (by omega) bl hu0 hu1 hz ho)
    · have ho1 : o1 = true := by cases o1 <;> simp_all
      have ho2 : o2 = true := by cases o2 <;> simp_all
      obtain ⟨sg, hsg0, hsg1⟩ : ∃ sg : Bool, (sg = false → (s.data.toList.getD 0 0).toNat ≠ 45) ∧ (sg = true → (s.data.toList.getD 0 0).toNat = 45) := ⟨decide ((s.data.toList.getD 0 0).toNat = 45), by simp, by simp⟩
      obtain ⟨e0, he0, he1⟩ : ∃ e0 : Int, (bl = false → e0 = v2) ∧ (bl = true → e0 = 0 - v2) := by
        cases bl
        · exact ⟨v2, fun _ => rfl, fun h => (by cases h)⟩
        · exact ⟨0 - v2, fun h => (by cases h), fun _ => rfl⟩
      have hJ := q_Join sg v1 e0 (by omega)
      have hjl := jr_le v1 e0 (by omega)
      have hx : sw sg (jr v1 e0) < 18446744073709551616 := by unfold sw; split <;> omega
      have hr : rg (sw sg (jr v1 e0)) ≤ 9218868437227405312 := by unfold rg sw; split <;> omega
      generalize sw sg (jr v1 e0) = x at *
      have o := fun t (hX : TX x t) (ht : (t.toList == s.toList) = false) => q_Read_ok2 s hs n1 n2 n3 i h1 h2 hp hf v1 v2 o1 o2 u d1 d2 (by omega) (by omega) bl hu0 hu1 hz ho1 ho2 x t sg hsg0 hsg1 (fun h => by rw [← he0 h]; exact hJ) (fun h => by rw [← he1 h]; exact hJ) hX.2 ht
      rcases Nat.lt_or_ge (rg x) 9218868437227405312 with h | h
      · obtain ⟨m, e, t1, t2, t3, t4, t5⟩ := tx_fin x hx h
        cases ht : ((txt (sgx x) m e).toList == s.toList)
        · exact .inl (o _ t1 ht)
        · right
          refine ⟨x, m, e, hx, ?_, t1, t2, t3, t4, t5⟩
          have := eq_of_beq ht
          rw [Go.ByteArray.toList_eq, Go.ByteArray.toList_eq] at this
          exact (ByteArray.ext (Array.toList_inj.1 this)).symm
      · left
        refine o _ (tx_inf x hx (by omega)) ?_
        cases ht : ((⟨#[sgB (sgx x), 105, 110, 102]⟩ : ByteArray).toList == s.toList)
        · rfl
        · exfalso
          have e1 := eq_of_beq ht
          rw [Go.ByteArray.toList_eq] at e1
          rw [← e1] at a2 a3
          cases hb : sgx x
          · rw [hb] at a2; exact absurd a2 (by decide)
          · rw [hb] at a3; exact absurd a3 (by decide)
end Go.Ab
end
