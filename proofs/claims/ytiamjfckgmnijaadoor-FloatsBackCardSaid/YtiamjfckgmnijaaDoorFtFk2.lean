import Derived.Test.YtiamjfckgmnijaaDoorFtFk1
import Derived.Test.YtiamjfckgmnijaaDoorFtNx
import Derived.Test.YtiamjfckgmnijaaDoorFtOc
import Derived.Test.YtiamjfckgmnijaaDoorFtI
import Derived.Test.YtiamjfckgmnijaaDoorFtFj3
set_option linter.all false
section
namespace Go.Ab
open Go Go.Proofs Go.Proofs.YtiamjfckgmnijaaDoor.Pl
set_option maxRecDepth 100000
set_option exponentiation.threshold 5000
set_option maxHeartbeats 4000000
theorem k_len {A : Int} {t : Nat} (h0 : 0 ≤ A) (h : A < 2 ^ t) (ht : t ≤ 3200) : (N A).length ≤ 100 := by
  refine (N_is h0).len ?_
  obtain ⟨K, hK⟩ : ∃ K : Nat, K = 32 * 100 := ⟨_, rfl⟩
  rw [show (4294967296 : Int) = 2 ^ 32 by decide, ← Int.pow_mul, ← hK]
  have h2 : ((2 ^ t : Nat) : Int) ≤ ((2 ^ K : Nat) : Int) := Int.ofNat_le.2 (Nat.pow_le_pow_right (by decide) (by omega))
  rw [Int.natCast_pow, Int.natCast_pow] at h2
  exact Int.lt_of_lt_of_le h h2
theorem k_two (n : Nat) : ((2 ^ n : Nat) : Int) = 2 ^ n := by rw [Int.natCast_pow]; rfl
theorem bits_uniq {v bn t : Nat} (h1 : (2 : Int) ^ (bn - 1) ≤ (v : Int)) (h2 : (v : Int) < 2 ^ bn) (h3 : 2 ^ t ≤ v) (h4 : v < 2 ^ (t + 1)) (hb : 1 ≤ bn) : bn = t + 1 := by
  rw [← k_two] at h1 h2
  have a1 : 2 ^ (bn - 1) < 2 ^ (t + 1) := Nat.lt_of_le_of_lt (Int.ofNat_le.1 h1) h4
  have a2 : 2 ^ t < 2 ^ bn := Nat.lt_of_le_of_lt h3 (Int.ofNat_lt.1 h2)
  have b1 := (Nat.pow_lt_pow_iff_right (by decide)).1 a1
  have b2 := (Nat.pow_lt_pow_iff_right (by decide)).1 a2
  omega
theorem s_NearF (b : Bool) (n d : List Int) (m E F W r : Nat) (hn : Wf n) (hd : Wf d) (hf : formB b n d = true) (hn0 : n.length ≠ 0) (hm0 : 0 < m) (hm : m < 9007199254740992) (hW : (W : Int) - 1074 = (E : Int) - F)
    (vn : val n = ((m * 2 ^ E : Nat) : Int)) (vd : val d = ((2 ^ F : Nat) : Int)) (hr1 : r < 9218868437227405312) (hmg : mg r = m * 2 ^ W) : Spec Tryd.prog 27 [RA b n d] (.tup [f64 (sw b r), .sc (.int .i64 0)]) := by
  have hF := of_decide_eq_true hf
  obtain ⟨f1, f2, f3, _, _⟩ := hF
  obtain ⟨ln, tn⟩ := of_decide_eq_true f1
  obtain ⟨ld, td⟩ := of_decide_eq_true f2
  have eN : N (val n) = n := (Is.toN ⟨hn, tn, rfl⟩).symm
  have eD : N (val d) = d := (Is.toN ⟨hd, td, rfl⟩).symm
  have bdn := bitsL_bd hn
  have bdd := bitsL_bd hd
  obtain ⟨n1, n2⟩ := bitsL_ge hn tn hn0
  obtain ⟨d1, d2⟩ := bitsL_ge hd td f3
  have n3 := bitsL_lt hn tn
  have d3 := bitsL_lt hd td
  have cBn := s_Bits n hn (by omega)
  have cBd := s_Bits d hd (by omega)
  rw [eN] at cBn
  rw [eD] at cBd
  generalize bitsL n = Bn at *
  generalize bitsL d = Bd at *
  obtain ⟨bn, rfl⟩ := Int.eq_ofNat_of_zero_le bdn.1
  obtain ⟨bd, rfl⟩ := Int.eq_ofNat_of_zero_le bdd.1
  simp only [Int.toNat_natCast] at n2 n3 d2 d3
  have u0 : 0 < val n := Int.lt_of_lt_of_le (pw _) n2
  have v0 : 0 < val d := Int.lt_of_lt_of_le (pw _) d2
  obtain ⟨k, hk⟩ : ∃ k : Int, k = 61 - (bn : Int) + bd := ⟨_, rfl⟩
  obtain ⟨nb1, nb2⟩ := near_bd n2 n3 d2 d3 (by omega) (by omega) hk
  have pA : 0 < val n * 2 ^ k.toNat := Int.mul_pos u0 (pw _)
  have pB : 0 < val d * 2 ^ (-k).toNat := Int.mul_pos v0 (pw _)
  have cS1 := s_Shl n k.toNat hn (by omega) (by omega)
  have cS2 := s_Shl d (-k).toNat hd (by omega) (by omega)
  have lA : (N (val n * 2 ^ k.toNat)).length ≤ 100 := k_len (Int.le_of_lt pA) (t := bn + k.toNat) (by rw [Int.pow_add]; exact Int.mul_lt_mul_of_pos_right n3 (pw _)) (by omega)
  have lB : (N (val d * 2 ^ (-k).toNat)).length ≤ 100 := k_len (Int.le_of_lt pB) (t := bd + (-k).toNat) (by rw [Int.pow_add]; exact Int.mul_lt_mul_of_pos_right d3 (pw _)) (by omega)
  have fS := s_Form b n d hn hd (by omega) (by omega)
  rw [hf] at fS
  obtain ⟨L, hL⟩ : ∃ L, L = m.log2 := ⟨_, rfl⟩
  have hl : L < 53 := by rw [hL]; exact (Nat.log2_lt (by omega)).2 hm
  obtain ⟨l1, l2⟩ := log2_bd hm0
  rw [← hL] at l1 l2
  have en : bn = L + E + 1 := by
    rw [vn] at n2 n3
    refine bits_uniq n2 n3 ?_ ?_ (by omega)
    · rw [Nat.pow_add]; exact Nat.mul_le_mul_right _ l1
    · rw [show L + E + 1 = L + 1 + E by omega, Nat.pow_add]; exact Nat.mul_lt_mul_of_pos_right l2 (Nat.two_pow_pos _)
  have ed : bd = F + 1 := by
    rw [vd] at d2 d3
    exact bits_uniq d2 d3 (Nat.le_refl _) (Nat.pow_lt_pow_right (by decide) (by omega)) (by omega)
  have eA : val n * 2 ^ k.toNat = ((m * 2 ^ (61 - L) : Nat) : Int) * (val d * 2 ^ (-k).toNat) := by
    rw [vn, vd, ← k_two, ← k_two, ← Int.natCast_mul, ← Int.natCast_mul, ← Int.natCast_mul]
    congr 1
    rw [Nat.mul_assoc, Nat.mul_assoc, ← Nat.pow_add, ← Nat.pow_add, ← Nat.pow_add]
    congr 2
    omega
  have eq : val n * 2 ^ k.toNat / (val d * 2 ^ (-k).toNat) = ((m * 2 ^ (61 - L) : Nat) : Int) := by rw [eA]; exact Int.mul_ediv_cancel _ (by omega)
  have er : val n * 2 ^ k.toNat % (val d * 2 ^ (-k).toNat) = 0 := by rw [eA]; exact Int.mul_emod_left _ _
  have hge : ¬ val n * 2 ^ k.toNat < val d * 2 ^ (-k).toNat := by
    intro h
    rw [Int.ediv_eq_zero_of_lt (Int.le_of_lt pA) h] at nb1
    omega
  clear eA
  generalize val n * 2 ^ k.toNat = A at *
  generalize val d * 2 ^ (-k).toNat = B at *
  have e2 : 2 * (m * 2 ^ (61 - L)) = m * 2 ^ (62 - L) := by rw [show 62 - L = 61 - L + 1 by omega, Nat.pow_succ, Nat.mul_left_comm, Nat.mul_comm 2]
  have hj := jr_mul (m := m) (j := 62 - L) (w := W) (r := r) hm0 hm (by omega) (by omega) hr1 hmg
  have ew : (W : Int) - 1074 - ((62 - L : Nat) : Int) = -k - 1 := by omega
  rw [ew, ← e2] at hj
  obtain ⟨qn, hq⟩ : ∃ qn : Nat, qn = m * 2 ^ (61 - L) := ⟨_, rfl⟩
  rw [← hq] at eq hj
  clear e2
  have cJ := s_Join b (2 * qn) (-k - 1) (by omega) (by omega)
  rw [hj] at cJ
  have eq2 := N_two (q := A / B) (by omega) (by omega)
  have n0 : N (A % B) = [] := by rw [er, N_zero]
  by_cases hd1 : (trim (N B)).length = 1
  · have g := g_QR2 (N A) (N B) (N_wf _) (N_wf _) (by omega) (by omega) (by rw [N_val (Int.le_of_lt pB)]; omega) (by rw [N_val (Int.le_of_lt pA), N_val (Int.le_of_lt pB)]; exact hge) hd1
    rw [N_val (Int.le_of_lt pA), N_val (Int.le_of_lt pB), eq2] at g
    exact s_Near_walk b n d k (A / B) k.toNat (-k).toNat (N A) (N B) bn bd (N (A % B)).length ((N (A % B)).map u32) (2 * qn) _ fS hn0 ln cBn cBd hk (by omega) (by omega) (by omega) (by omega) rfl rfl cS1 cS2 (by omega) (by omega) (by simp) g (by rw [n0, if_pos (by rfl)]; omega) cJ
  · have g := g_QR4 (N A) (N B) (N_wf _) (N_wf _) (by omega) (by omega) (by rw [N_val (Int.le_of_lt pB)]; omega) (by rw [N_val (Int.le_of_lt pA), N_val (Int.le_of_lt pB)]; exact hge) hd1 (by rw [N_val (Int.le_of_lt pA), N_val (Int.le_of_lt pB)]; exact er)
    rw [N_val (Int.le_of_lt pA), N_val (Int.le_of_lt pB), eq2] at g
    exact s_Near_walk0 b n d k (A / B) k.toNat (-k).toNat (N A) (N B) bn bd (2 * qn) _ fS hn0 ln cBn cBd hk (by omega) (by omega) (by omega) (by omega) rfl rfl cS1 cS2 (by omega) (by omega) g (by omega) cJ
theorem s_NearZ (b : Bool) (n d : List Int) (hn : Wf n) (hd : Wf d) (ln : n.length ≤ 35184372088832) (ld : d.length ≤ 35184372088832) (hf : formB b n d = true) (h0 : n.length = 0) : Spec Tryd.prog 27 [RA b n d] (.tup [f64 0, .sc (.int .i64 0)]) := by
  have fS := s_Form b n d hn hd (by omega) (by omega)
  rw [hf] at fS
  refine spec_of_awp mixed Tryd.func27 rfl Tryd.call27 (by kernel_rfl) (by simp) rfl ?_
  refine T (call_by fS ?_)
  exact TR rfl
end Go.Ab
end
