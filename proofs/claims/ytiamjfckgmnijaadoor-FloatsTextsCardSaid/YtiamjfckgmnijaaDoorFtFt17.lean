import Derived.Test.YtiamjfckgmnijaaDoorFtFt16
import Derived.Test.YtiamjfckgmnijaaDoorFtFt13
set_option linter.all false
section
namespace Go.Ab
open Go Go.Proofs Go.RowKit Go.Sort Go.Lib
set_option maxRecDepth 100000
set_option maxHeartbeats 4000000
theorem idx_or : ∀ (l : List UInt8) (c : UInt8), indexByte l c = -1 ∨ ∃ i : Nat, indexByte l c = i ∧ i < l.length
  | [], _ => .inl rfl
  | b :: l, c => by
    simp only [indexByte]
    by_cases h : (b == c) = true
    · rw [if_pos h]
      exact .inr ⟨0, rfl, by simp⟩
    · rw [if_neg h]
      rcases idx_or l c with e | ⟨i, e, hi⟩
      · rw [e]; exact .inl rfl
      · right
        refine ⟨i + 1, ?_, by simp; omega⟩
        rw [e, if_neg (by simp)]
        omega
theorem atoi_bd {l : List UInt8} {v : Int} (h : atoiAll l = .ok v) : -9223372036854775808 ≤ v ∧ v ≤ 9223372036854775807 := by
  unfold atoiAll at h
  split at h
  · cases h
  · simp only at h
    split at h
    · cases h
    · cases h
    · split at h
      · cases h
      · split at h
        · cases h
        · rename_i h1 h2
          cases h
          split <;> omega
theorem ans_mono {P : Program} {f : FuncId} {args : Array Value} {R R' : Value → Prop} (h : Ans P f args R) (hr : ∀ v, R v → R' v) : Ans P f args R' := fun w hT => (h w hT).mono fun e w' ⟨v, a, b, c, d⟩ => ⟨v, a, hr v b, c, d⟩
theorem fr_any (s : ByteArray) (hs : s.size ≤ 140737488355328) (a1 : (s.toList == [110, 97, 110]) = false) (a2 : (s.toList == [43, 105, 110, 102]) = false) (a3 : (s.toList == [45, 105, 110, 102]) = false) :
    Spec Tryd.prog 22 [.sc (.string s)] (.tup [f64 0, .sc (.int .i64 31)]) ∨ ∃ x m e, x < 18446744073709551616 ∧ s = txt (sgx x) m e ∧ TX x (txt (sgx x) m e) ∧ jr m e = rg x ∧ m < 9007199254740992 ∧ -1074 ≤ e ∧ e ≤ 1100 := by
  rcases idx_or s.data.toList 112 with hc | ⟨i, hi, hl⟩
  · left
    exact sr_read s 0 31 fun w hT => read_no s s ByteArray.empty a1 a2 a3 false (ans_cut (s_CutNo s hc)) ⟨by omega, by decide⟩ (.inl rfl) w hT
  · rw [len_s'] at hl
    have hC := s_Cut s i hi hl hs
    have sa : (s.extract 0 i).size = i := by rw [ByteArray.size_extract]; omega
    have sb : (s.extract (i + 1) s.size).size = s.size - (i + 1) := by rw [ByteArray.size_extract]; omega
    generalize s.extract 0 i = a at *
    generalize s.extract (i + 1) s.size = b at *
    by_cases hlen : i < 2 ∨ 18 < i ∨ 5 < s.size - (i + 1)
    · left
      exact sr_read s 0 31 fun w hT => read_no s a b a1 a2 a3 true (ans_cut hC) ⟨by omega, by omega⟩ (.inr (by omega)) w hT
    · have ha : 2 ≤ a.size ∧ a.size ≤ 18 := by omega
      have hb : b.size ≤ 5 := by omega
      have sd : (a.extract 1 a.size).size ≤ 18 := by rw [ByteArray.size_extract]; omega
      by_cases hp : ∃ u, parseUintB 64 (a.extract 1 a.size).data.toList = .ok u
      · obtain ⟨u, hu⟩ := hp
        by_cases hq : ∃ v, atoiAll b.data.toList = .ok v
        · obtain ⟨v, hv⟩ := hq
          have hu64 : u < 18446744073709551616 := by rw [parseUintB_64] at hu; exact parseMag_lt hu
          have hvb := atoi_bd hv
          obtain ⟨sg, hsg⟩ : ∃ sg : Bool, ((a.data.toList.getD 0 0).toNat = 45 ↔ sg = true) := ⟨decide ((a.data.toList.getD 0 0).toNat = 45), by simp⟩
          have hJ := s_Join sg u v hu64 hvb
          have hjl := jr_le u v hu64
          have hx : sw sg (jr u v) < 18446744073709551616 := by unfold sw; split <;> omega
          have hr : rg (sw sg (jr u v)) ≤ 9218868437227405312 := by unfold rg sw; split <;> omega
          generalize sw sg (jr u v) = x at *
          have o := fun t (hX : TX x t) (ht : (t.toList == s.toList) = false) => fr_other s a b t i u x v sg a1 a2 a3 hC ha.1 ha.2 hb (s_ParseUint_ok _ u (by omega) hu) (s_Atoi_ok _ v (by omega) hv) hJ hsg hX.1 ht
          rcases Nat.lt_or_ge (rg x) 9218868437227405312 with h | h
          · obtain ⟨m, e, t1, t2, t3, t4, t5⟩ := tx_fin x hx h
            cases ht : ((txt (sgx x) m e).toList == s.toList)
            · exact .inl (o _ t1 ht)
            · right
              refine ⟨x, m, e, hx, ?_, t1, t2, t3, t4, t5⟩
              have := eq_of_beq ht
              rw [Go.ByteArray.toList_eq, Go.ByteArray.toList_eq] at this
              exact (ByteArray.ext (Array.toList_inj.1 this)).symm
          · left
            refine o _ (tx_inf x hx (by omega)) ?_
            cases ht : ((⟨#[sgB (sgx x), 105, 110, 102]⟩ : ByteArray).toList == s.toList)
            · rfl
            · exfalso
              have e1 := eq_of_beq ht
              rw [Go.ByteArray.toList_eq] at e1
              rw [← e1] at a2 a3
              cases hb : sgx x
              · rw [hb] at a2; exact absurd a2 (by decide)
              · rw [hb] at a3; exact absurd a3 (by decide)
        · left
          exact sr_read s 0 31 fun w hT => read_bad s a b a1 a2 a3 (ans_cut hC) ha hb (· = .nilIface) Bad (ans_mono (pu_ok _ (by omega) u hu) fun v hv => ⟨_, _, hv, rfl⟩) (at_bad b (by omega) fun v hv => hq ⟨v, hv⟩) (.inr ⟨rfl, rfl⟩) w hT
      · left
        have hpb := pu_bad (a.extract 1 a.size) (by omega) fun u hu => hp ⟨u, hu⟩
        by_cases hq : ∃ v, atoiAll b.data.toList = .ok v
        · obtain ⟨v, hv⟩ := hq
          exact sr_read s 0 31 fun w hT => read_bad s a b a1 a2 a3 (ans_cut hC) ha hb Bad (· = .nilIface) hpb (ans_mono (at_ok _ (by omega) v hv) fun v hv => ⟨_, _, hv, rfl⟩) (.inl ⟨rfl, .inr rfl⟩) w hT
        · exact sr_read s 0 31 fun w hT => read_bad s a b a1 a2 a3 (ans_cut hC) ha hb Bad Bad hpb (at_bad b (by omega) fun v hv => hq ⟨v, hv⟩) (.inl ⟨rfl, .inl rfl⟩) w hT
end Go.Ab
end
