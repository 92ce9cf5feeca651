import Derived.Test.YtiamjfckgmnijaaDoorFtFk2
import Derived.Test.YtiamjfckgmnijaaDoorFtFe1
import Derived.Test.YtiamjfckgmnijaaDoorFtFt15
import Derived.Test.YtiamjfckgmnijaaDoorFtM
set_option linter.all false
section
namespace Go.Ab
open Go Go.Proofs Go.Proofs.YtiamjfckgmnijaaDoor.Pl
set_option maxRecDepth 100000
set_option exponentiation.threshold 5000
set_option maxHeartbeats 8000000
theorem k_form {b : Bool} {u v : Int} (u0 : 0 < u) (v0 : 0 < v) (hg : Int.gcd u v = 1) (h1 : (N u).length ≤ 16) (h2 : (N v).length ≤ 16) : formB b (N u) (N v) = true := by
  rw [formB, decide_eq_true]
  refine ⟨decide_eq_true ⟨h1, (N_is (by omega)).nm⟩, decide_eq_true ⟨h2, (N_is (by omega)).nm⟩, ?_, fun _ => ?_, ?_⟩
  · intro h
    have := N_val (show 0 ≤ v by omega)
    rw [List.eq_nil_of_length_eq_zero h] at this
    simp [val] at this
    omega
  · intro h
    have := N_val (show 0 ≤ u by omega)
    rw [List.eq_nil_of_length_eq_zero h] at this
    simp [val] at this
    omega
  · rw [N_val (by omega), N_val (by omega)]; exact hg
theorem k_gcd {m E F : Nat} (hm : m % 2 = 1) (h : E = 0 ∨ F = 0) : Int.gcd ((m * 2 ^ E : Nat) : Int) ((2 ^ F : Nat) : Int) = 1 := by
  show Nat.gcd (m * 2 ^ E) (2 ^ F) = 1
  rcases h with rfl | rfl
  · rw [Nat.pow_zero, Nat.mul_one]
    refine Nat.Coprime.pow_right F ?_
    rw [Nat.Coprime, Nat.gcd_comm, Nat.gcd_rec, hm]
    decide
  · rw [Nat.pow_zero, Nat.gcd_one_right]
theorem exact_fin (x k w : Nat) (hx : x < 18446744073709551616) (h0 : 0 < rg x) (h1 : rg x < 9218868437227405312) (hm : mg (rg x) = (2 * k + 1) * 2 ^ w) :
    Spec Tryd.prog 26 [f64 x] (resR ((false, [], []), 4)) ∨ ∃ n d, Spec Tryd.prog 26 [f64 x] (resR ((sgx x, n, d), 0)) ∧ Spec Tryd.prog 27 [RA (sgx x) n d] (.tup [f64 x, .sc (.int .i64 0)]) := by
  obtain ⟨_, hk, hw⟩ := rejoin h0 h1 hm
  have e1 := s_Exact1 x _ _ _ hk ⟨by omega, by omega⟩ (s_Parts1 x k w hx h0 h1 hm)
  obtain ⟨E, hE⟩ : ∃ E, E = ((w : Int) - 1074).toNat := ⟨_, rfl⟩
  obtain ⟨F, hF⟩ : ∃ F, F = (-((w : Int) - 1074)).toNat := ⟨_, rfl⟩
  rw [← hE, ← hF, Int.one_mul, ← k_two, ← k_two, ← Int.natCast_mul] at e1
  have hg := k_gcd (m := 2 * k + 1) (by omega) (show E = 0 ∨ F = 0 by omega)
  have u0 : 0 < (2 * k + 1) * 2 ^ E := Nat.mul_pos (by omega) (Nat.two_pow_pos _)
  have v0 : 0 < 2 ^ F := Nat.two_pow_pos _
  obtain ⟨u, hu⟩ : ∃ u : Nat, u = (2 * k + 1) * 2 ^ E := ⟨_, rfl⟩
  obtain ⟨v, hv⟩ : ∃ v : Nat, v = 2 ^ F := ⟨_, rfl⟩
  rw [← hu, ← hv] at e1 hg
  rw [← hu] at u0
  rw [← hv] at v0
  unfold mkR at e1
  rw [if_neg (by omega), if_neg (by omega), hg, show ((1 : Nat) : Int) = 1 from rfl, Int.ediv_one, Int.ediv_one] at e1
  by_cases hl : (N (u : Int)).length ≤ 16 ∧ (N (v : Int)).length ≤ 16
  · rw [if_pos hl] at e1
    refine .inr ⟨_, _, e1, ?_⟩
    have nr := s_NearF (sgx x) (N (u : Int)) (N (v : Int)) (2 * k + 1) E F w (rg x) (N_wf _) (N_wf _) (k_form (by omega) (by omega) hg hl.1 hl.2) ?_ (by omega) hk (by omega) (by rw [N_val (by omega), hu]) (by rw [N_val (by omega), hv]) h1 hm
    · rw [sw_word hx] at nr
      exact nr
    · intro h
      have := N_val (show (0 : Int) ≤ u by omega)
      rw [List.eq_nil_of_length_eq_zero h] at this
      simp [val] at this
      omega
  · rw [if_neg hl] at e1
    exact .inl e1
theorem exact_zero (x : Nat) (hx : x < 18446744073709551616) (h0 : rg x = 0) :
    Spec Tryd.prog 26 [f64 x] (resR ((false, [], [1]), 0)) ∧ Spec Tryd.prog 27 [RA false [] [1]] (.tup [f64 0, .sc (.int .i64 0)]) := by
  have e1 := s_Exact1 x _ 0 0 (by decide) (by decide) (s_PartsB x hx h0)
  rw [show mkR (sgx x) (((0 : Nat) : Int) * 2 ^ (0 : Int).toNat) (1 * 2 ^ (-(0 : Int)).toNat) = ((false, [], [1]), 0) from rfl] at e1
  exact ⟨e1, s_NearZ false [] [1] (by simp [Wf]) (by simp [Wf]) (by simp) (by simp) (by decide +kernel) rfl⟩
theorem read_self (x : Nat) (hx : x < 18446744073709551616) (h1 : rg x ≤ 9218868437227405312) : ∃ t, Spec Tryd.prog 24 [f64 x] (.sc (.string t)) ∧ Spec Tryd.prog 22 [.sc (.string t)] (.tup [f64 x, .sc (.int .i64 0)]) := by
  rcases Nat.lt_or_ge (rg x) 9218868437227405312 with h | h
  · obtain ⟨m, e, c, r1, r2, r3, r4⟩ := tx_fin x hx h
    exact ⟨_, c.1, fr_good x hx m e c r1 r2 r3 r4⟩
  · have he : rg x = 9218868437227405312 := by omega
    have c := (tx_inf x hx he).1
    have sg := sgx_eq hx
    have h1' : rg x = x % 9223372036854775808 := rfl
    rw [sg] at c
    by_cases hs : 9223372036854775808 ≤ x
    · have ex : x = 18442240474082181120 := by omega
      subst ex
      exact ⟨_, c, fr_ninf⟩
    · have ex : x = 9218868437227405312 := by omega
      subst ex
      exact ⟨_, c, fr_pinf⟩
end Go.Ab
end
