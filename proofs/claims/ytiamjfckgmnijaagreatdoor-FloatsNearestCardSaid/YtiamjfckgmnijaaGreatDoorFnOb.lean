import Derived.Test.YtiamjfckgmnijaaGreatDoorFnOa
import Derived.Test.YtiamjfckgmnijaaGreatDoorFnI
set_option linter.all false
section
namespace Go.Ab
open Go Go.Proofs Go.Proofs.YtiamjfckgmnijaaGreatDoor.Pl
set_option maxRecDepth 100000
set_option maxHeartbeats 8000000
theorem g_word (a : List Int) (w : Int) (ha : Wf a) (la : a.length ≤ 35184372088000) (hw : 0 < w) (hw' : w < 4294967296) : SpecG Tryz.prog 68 [U a, u32 w] [] (.tup [.hs 1000000 1 0 (N (val a / w)).length 1, u32 (val a % w)]) [(1, (N (val a / w)).map u32)] := by
  refine specG_of_awp mixed Tryz.func68 rfl Tryz.call68 (by kernel_rfl) (by simp) rfl rfl (by simp) ?_
  refine T ?_
  refine w_loop (α := Nat × Int × List Int) (fun p => [(.t 0, U a), (.t 1, u32 w), (.t 6, .hs 12 1 0 a.length 1), (.t 7, .sc (.int .u64 p.2.1)), (.t 8, .sc (.int .i64 ((p.1 : Int) - 1))), (.h 12, .blk 1 2 (p.2.2.map u32))])
    (fun p => p.1 ≤ a.length ∧ p.2.2.length = a.length ∧ Wf p.2.2 ∧ 0 ≤ p.2.1 ∧ p.2.1 < w ∧ val (p.2.2.drop p.1) * w + p.2.1 = val (a.drop p.1))
    (fun p => p.1) (a.length, 0, List.replicate a.length 0) ⟨Nat.le_refl _, by simp, Wf.zeros _, Int.le_refl 0, hw, by simp [val]⟩ ?_ ?_
  · exact Hv
  rintro ⟨n, r, o⟩ s ⟨h1, h2, h3, h4, h5, h6⟩ J hJ
  simp only at h1 h2 h3 h4 h5 h6
  have H6 := Hd.mk h6
  clear h6
  rcases n with _ | n
  · have h6 := H6.out
    rw [List.drop_zero, List.drop_zero] at h6
    refine T ?_
    have e1 : val a / w = val o := by rw [← h6, Int.add_comm, Int.add_mul_ediv_right _ _ (by omega), Int.ediv_eq_zero_of_lt h4 h5, Int.zero_add]
    have e2 : val a % w = r := by rw [← h6, Int.add_comm, Int.add_mul_emod_self_right, Int.emod_eq_of_lt h4 h5]
    have et : trim o = N (val a / w) := by rw [trim_N h3, e1]
    have lt := trim_len (o)
    have tk := trim_take (o)
    refine call_cut (o) 12 (1) rfl (by omega) h2.symm Hv ?_
    rw [et] at lt tk ⊢
    refine T (r_retG [(12, 1)] (by simp) ?_ ?_)
    · trivial
    rw [Tryz.results68]
    refine RG ?_
    rw [e2]
    exact ⟨Nat.le_refl _, Wk.refl _, by rw [tk]⟩
  · have hx := ha.at n
    obtain ⟨q, r2, eq, er, hq, hr2, hqr⟩ := divstep hw ⟨h4, h5⟩ hx
    have eq' := eq.out
    have er' := er.out
    subst eq' er'
    clear eq er
    have hqr' := hqr.out
    clear hqr
    have QR := Hd.mk hqr'
    clear hqr'
    refine T ?_
    refine hJ _ (n, (r * 4294967296 + a.getD n 0) % w, o.set n ((r * 4294967296 + a.getD n 0) / w)) (Nat.lt_succ_self n) ⟨by show n ≤ _; omega, by simp [h2], h3.set _ hq.1 hq.2, hr2.1, hr2.2, ?_⟩ ?_
    · show val ((o.set n _).drop n) * w + _ = val (a.drop n)
      rw [val_drop_at (l := o.set n _) (by simp; omega), val_drop_at (l := a) (by omega), getD_set_self (by omega), drop_set_lt (by omega)]
      have h1 := H6.out
      have h2 := QR.out
      generalize val (o.drop (n + 1)) = Q at *
      generalize val (a.drop (n + 1)) = A at *
      generalize a.getD n 0 = x at *
      generalize (r * 4294967296 + x) / w = q at *
      generalize (r * 4294967296 + x) % w = r2 at *
      grind
    · exact Hv
theorem g_Shr (a : List Int) (n : Nat) (ha : Wf a) (la : a.length ≤ 35184372088000) (hn : n ≤ 1000000000) (hk : n / 32 < (trim a).length) : SpecG Tryz.prog 71 [U a, .sc (.int .i64 n)] [] (.hs 1000000 1 0 (N (val a / 2 ^ n)).length 1) [(1, (N (val a / 2 ^ n)).map u32)] := by
  refine specG_of_awp mixed Tryz.func71 rfl Tryz.call71 (by kernel_rfl) (by simp) rfl rfl (by simp) ?_
  refine T (call_by (s_cut a (by omega)) ?_)
  have la' := trim_len a
  have ix := Is.of ha rfl
  generalize trim a = x at *
  have hx := ix.wf
  have hs : n % 32 < 32 := Nat.mod_lt _ (by decide)
  have hp := pow_bd (s := n % 32) (by omega)
  refine T ?_
  refine w_loop (α := Nat × List Int) (fun p => [(.t 0, U x), (.t 5, .sc (.int .i64 (n / 32 : Nat))), (.t 6, .sc (.int .u64 (n % 32 : Nat))), (.t 7, .hs 25 1 0 (x.length - n / 32) 1), (.t 27, .sc (.int .i64 (x.length - n / 32 : Nat))), (.t 28, .sc (.int .i64 p.1)), (.h 25, .blk 1 2 (p.2.map u32))])
    (fun p => p.1 ≤ x.length - n / 32 ∧ p.2.length = x.length - n / 32 ∧ Wf p.2 ∧ 2 ^ (n % 32) * val (p.2.take p.1) + x.getD (n / 32) 0 % 2 ^ (n % 32) = val ((x.drop (n / 32)).take p.1) + 4294967296 ^ p.1 * (x.getD (n / 32 + p.1) 0 % 2 ^ (n % 32)))
    (fun p => x.length - n / 32 - p.1) (0, List.replicate (x.length - n / 32) 0) ⟨Nat.zero_le _, by simp, Wf.zeros _, by simp [val]⟩ ?_ ?_
  · exact Hv
  rintro ⟨i, o⟩ r ⟨h1, h2, h3, h5⟩ J hJ
  simp only at h1 h2 h3 h5
  have H5 := Hd.mk h5
  clear h5
  by_cases hi : i < x.length - n / 32
  · have hai := hx.at (n / 32 + i)
    have hbi := hx.at (n / 32 + i + 1)
    obtain ⟨z, ez, hz, hyz⟩ := shrstep hs hai hbi
    have fin : 2 ^ (n % 32) * val ((o.set i z).take (i + 1)) + x.getD (n / 32) 0 % 2 ^ (n % 32) = val ((x.drop (n / 32)).take (i + 1)) + 4294967296 ^ (i + 1) * (x.getD (n / 32 + i + 1) 0 % 2 ^ (n % 32)) := by
      rw [val_take_set (by omega), val_take_at (x.drop _), getD_drop, pow_snoc]
      have e := H5.out
      have := hyz.out
      clear ez
      generalize (4294967296 : Int) ^ i = P at *
      generalize (2 : Int) ^ (n % 32) = S at *
      generalize x.getD (n / 32 + i) 0 = X at *
      generalize x.getD (n / 32 + i + 1) 0 = Y at *
      generalize x.getD (n / 32) 0 % S = X0 at *
      have e2 : P * (S * z + X % S) = P * (X + 4294967296 * (Y % S)) := by rw [this]
      grind
    have FIN := Hd.mk fin
    clear fin
    have ez' := ez.out
    clear ez
    by_cases hj : n / 32 + i + 1 < x.length
    · refine T ?_
      refine hJ _ (i + 1, o.set i z) ?_ ⟨hi, by simp [h2], h3.set _ hz.1 hz.2, FIN.out⟩ ?_
      · show x.length - n / 32 - (i + 1) < x.length - n / 32 - i; omega
      · rw [← ez']; exact Hv
    · have hy0 : x.getD (n / 32 + i + 1) 0 = 0 := getD_big (by omega)
      rw [hy0, Int.zero_mul, Int.zero_add] at ez'
      refine T ?_
      refine hJ _ (i + 1, o.set i z) ?_ ⟨hi, by simp [h2], h3.set _ hz.1 hz.2, FIN.out⟩ ?_
      · show x.length - n / 32 - (i + 1) < x.length - n / 32 - i; omega
      · rw [← ez']; exact Hv
  · have hi' : i = x.length - n / 32 := by omega
    subst hi'
    refine T ?_
    have h5 := H5.out
    rw [← h2, List.take_length, h2, List.take_of_length_le (by simp), getD_big (l := x) (n := n / 32 + (x.length - n / 32)) (by omega)] at h5
    have e1 := val_cut x (n / 32) (by omega)
    have l1 := val_lt (hx.take (n / 32))
    rw [List.length_take, Nat.min_eq_left (by omega)] at l1
    have l2 := val_nonneg (hx.take (n / 32))
    have hpk := pow_pos' (n / 32)
    have e2 : val a / 4294967296 ^ (n / 32) = val (x.drop (n / 32)) := by
      rw [← ix.val, e1, Int.add_mul_ediv_left _ _ (by omega), Int.ediv_eq_zero_of_lt l2 l1, Int.zero_add]
    have e3 : val (x.drop (n / 32)) / 2 ^ (n % 32) = val o := by
      have h6 : val (x.drop (n / 32)) = x.getD (n / 32) 0 % 2 ^ (n % 32) + 2 ^ (n % 32) * val o := by rw [Int.zero_emod, Int.mul_zero, Int.add_zero] at h5; omega
      rw [h6, Int.add_mul_ediv_left _ _ (by omega), Int.ediv_eq_zero_of_lt (Int.emod_nonneg _ (by omega)) (Int.emod_lt_of_pos _ (by omega)), Int.zero_add]
    have et : trim o = N (val a / 2 ^ n) := by rw [trim_N h3, pow_parts n, ← Int.ediv_ediv_of_nonneg (by omega), e2, e3]
    have lt := trim_len (o)
    have tk := trim_take (o)
    refine call_cut (o) 25 (1) rfl (by omega) h2.symm Hv ?_
    rw [et] at lt tk ⊢
    refine T (r_retG [(25, 1)] (by simp) ?_ ?_)
    · trivial
    rw [Tryz.results71]
    refine RG ?_
    exact ⟨Nat.le_refl _, Wk.refl _, by rw [tk]⟩
end Go.Ab
end
