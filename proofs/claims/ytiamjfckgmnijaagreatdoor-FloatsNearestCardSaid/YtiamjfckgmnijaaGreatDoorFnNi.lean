import Derived.Test.YtiamjfckgmnijaaGreatDoorFnNh
import Derived.Test.YtiamjfckgmnijaaGreatDoorFnNf
import Derived.Test.YtiamjfckgmnijaaGreatDoorFnFk1
import Derived.Test.YtiamjfckgmnijaaGreatDoorFnNx
import Derived.Test.YtiamjfckgmnijaaGreatDoorFnFe1
import Derived.Test.YtiamjfckgmnijaaGreatDoorFnM
import Derived.Test.YtiamjfckgmnijaaGreatDoorFnSq13
set_option linter.all false
section
namespace Go.Ab
open Go Go.Proofs Go.Proofs.YtiamjfckgmnijaaGreatDoor.Pl
set_option maxRecDepth 100000
set_option exponentiation.threshold 5000
set_option maxHeartbeats 8000000
def sv (b : Bool) (n : List Int) : Int := if b = true then -(val n) else val n
theorem sw_rg (b : Bool) {R : Nat} (h : R ≤ 9218868437227405312) : rg (sw b R) = R ∧ sgx (sw b R) = b ∧ sw b R < 18446744073709551616 := by
  unfold sw
  cases b
  · rw [if_neg (by decide), sgx_eq (by omega), decide_eq_false (by omega)]
    exact ⟨Nat.mod_eq_of_lt (by omega), rfl, by omega⟩
  · rw [if_pos rfl, sgx_eq (by omega), decide_eq_true (by omega)]
    unfold rg
    exact ⟨by omega, rfl, by omega⟩
theorem near_best2 (b : Bool) (n d : List Int) (hn : Wf n) (hd : Wf d) (hf : formB b n d = true) (hn0 : n.length ≠ 0) : ∃ R : Nat, Spec Tryz.prog 11 [RA b n d] (.tup [f64 (sw b R), .sc (.int .i64 0)]) ∧ R ≤ 9218868437227405312 ∧
    (R < 9218868437227405312 → ∀ r : Nat, ((mg R : Int) * val d - val n * 2 ^ 1074).natAbs ≤ ((mg r : Int) * val d - val n * 2 ^ 1074).natAbs) := by
  have hF := of_decide_eq_true hf
  obtain ⟨f1, f2, f3, _, _⟩ := hF
  obtain ⟨ln, tn⟩ := of_decide_eq_true f1
  obtain ⟨ld, td⟩ := of_decide_eq_true f2
  have eN : N (val n) = n := (Is.toN ⟨hn, tn, rfl⟩).symm
  have eD : N (val d) = d := (Is.toN ⟨hd, td, rfl⟩).symm
  have bdn := bitsL_bd hn
  have bdd := bitsL_bd hd
  obtain ⟨n1, n2⟩ := bitsL_ge hn tn hn0
  obtain ⟨d1, d2⟩ := bitsL_ge hd td f3
  have n3 := bitsL_lt hn tn
  have d3 := bitsL_lt hd td
  have cBn := s_Bits n hn (by omega)
  have cBd := s_Bits d hd (by omega)
  rw [eN] at cBn
  rw [eD] at cBd
  generalize bitsL n = Bn at *
  generalize bitsL d = Bd at *
  obtain ⟨bn, rfl⟩ := Int.eq_ofNat_of_zero_le bdn.1
  obtain ⟨bd, rfl⟩ := Int.eq_ofNat_of_zero_le bdd.1
  simp only [Int.toNat_natCast] at n2 n3 d2 d3
  have u0 : 0 < val n := Int.lt_of_lt_of_le (pw _) n2
  have v0 : 0 < val d := Int.lt_of_lt_of_le (pw _) d2
  obtain ⟨k, hk⟩ : ∃ k : Int, k = 61 - (bn : Int) + bd := ⟨_, rfl⟩
  obtain ⟨nb1, nb2⟩ := near_bd n2 n3 d2 d3 (by omega) (by omega) hk
  have pA : 0 < val n * 2 ^ k.toNat := Int.mul_pos u0 (pw _)
  have pB : 0 < val d * 2 ^ (-k).toNat := Int.mul_pos v0 (pw _)
  have cS1 := s_Shl n k.toNat hn (by omega) (by omega)
  have cS2 := s_Shl d (-k).toNat hd (by omega) (by omega)
  have lA : (N (val n * 2 ^ k.toNat)).length ≤ 100 := len_of (Int.le_of_lt pA) (t := bn + k.toNat) (by rw [Int.pow_add]; exact Int.mul_lt_mul_of_pos_right n3 (pw _)) (by omega)
  have lB : (N (val d * 2 ^ (-k).toNat)).length ≤ 100 := len_of (Int.le_of_lt pB) (t := bd + (-k).toNat) (by rw [Int.pow_add]; exact Int.mul_lt_mul_of_pos_right d3 (pw _)) (by omega)
  have fS := s_Form b n d hn hd (by omega) (by omega)
  rw [hf] at fS
  have hge : ¬ val n * 2 ^ k.toNat < val d * 2 ^ (-k).toNat := by
    intro h
    rw [Int.ediv_eq_zero_of_lt (Int.le_of_lt pA) h] at nb1
    omega
  have best := fun w R => near_best (n := val n) (d := val d) (k := k) (w := w) (R := R) pB rfl rfl (by omega) nb1 nb2
  generalize val n * 2 ^ k.toNat = A at *
  generalize val d * 2 ^ (-k).toNat = B at *
  have r0 := Int.emod_nonneg A (show B ≠ 0 by omega)
  obtain ⟨qn, hq⟩ : ∃ qn : Nat, A / B = qn := ⟨(A / B).toNat, by omega⟩
  obtain ⟨s, hs⟩ : ∃ s : Nat, (s : Int) = if A % B = 0 then 0 else 1 := by
    by_cases h : A % B = 0
    · exact ⟨0, by rw [if_pos h]; rfl⟩
    · exact ⟨1, by rw [if_neg h]; rfl⟩
  have hs1 : s ≤ 1 := by split at hs <;> omega
  have hw : ((2 * qn + s : Nat) : Int) = 2 * (A / B) + (if (N (A % B)).length = 0 then 0 else 1) := by
    by_cases h : A % B = 0
    · rw [if_pos ((N_len0 r0).2 h)]
      rw [if_pos h] at hs
      omega
    · rw [if_neg (fun e => h ((N_len0 r0).1 e))]
      rw [if_neg h] at hs
      omega
  have hw2 : ((2 * qn + s : Nat) : Int) = 2 * (A / B) + (if A % B = 0 then 0 else 1) := by rw [← hs]; omega
  have cJ := s_Join b (2 * qn + s) (-k - 1) (by omega) (by omega)
  have best := best (2 * qn + s) _ hw2 rfl
  have hle : jr (2 * qn + s) (-k - 1) ≤ 9218868437227405312 := by
    have ij := isR_jr (man := 2 * qn + s) (exp := -k - 1) (by omega) (by omega) (by
      have hl := (Nat.log2_lt (n := 2 * qn + s) (k := 63) (by omega)).2 (by omega)
      unfold jq
      omega) _ rfl
    rcases ij with ⟨h, _⟩ | ⟨h, _⟩ <;> omega
  generalize jr (2 * qn + s) (-k - 1) = R at *
  refine ⟨R, ?_, hle, best⟩
  have eq2 := N_two (q := A / B) (by omega) (by omega)
  by_cases hd1 : (trim (N B)).length = 1
  · have g := g_QR2 (N A) (N B) (N_wf _) (N_wf _) (by omega) (by omega) (by rw [N_val (Int.le_of_lt pB)]; omega) (by rw [N_val (Int.le_of_lt pA), N_val (Int.le_of_lt pB)]; exact hge) hd1
    rw [N_val (Int.le_of_lt pA), N_val (Int.le_of_lt pB), eq2] at g
    exact s_Near_walk b n d k (A / B) k.toNat (-k).toNat (N A) (N B) bn bd (N (A % B)).length ((N (A % B)).map u32) (2 * qn + s) _ fS hn0 ln cBn cBd hk (by omega) (by omega) (by omega) (by omega) rfl rfl cS1 cS2 (by omega) (by omega) (by simp) g hw cJ
  · by_cases hr : A % B = 0
    · have g := g_QR4 (N A) (N B) (N_wf _) (N_wf _) (by omega) (by omega) (by rw [N_val (Int.le_of_lt pB)]; omega) (by rw [N_val (Int.le_of_lt pA), N_val (Int.le_of_lt pB)]; exact hge) hd1 (by rw [N_val (Int.le_of_lt pA), N_val (Int.le_of_lt pB)]; exact hr)
      rw [N_val (Int.le_of_lt pA), N_val (Int.le_of_lt pB), eq2] at g
      rw [if_pos ((N_len0 r0).2 hr), Int.add_zero] at hw
      exact s_Near_walk0 b n d k (A / B) k.toNat (-k).toNat (N A) (N B) bn bd (2 * qn + s) _ fS hn0 ln cBn cBd hk (by omega) (by omega) (by omega) (by omega) rfl rfl cS1 cS2 (by omega) (by omega) g hw cJ
    · have g := g_QR3 (N A) (N B) (N_wf _) (N_wf _) (by omega) (by omega) (by rw [N_val (Int.le_of_lt pB)]; omega) (by rw [N_val (Int.le_of_lt pA), N_val (Int.le_of_lt pB)]; exact hge) hd1 (by rw [N_val (Int.le_of_lt pA), N_val (Int.le_of_lt pB)]; exact hr)
      rw [N_val (Int.le_of_lt pA), N_val (Int.le_of_lt pB), eq2] at g
      exact s_Near_walk b n d k (A / B) k.toNat (-k).toNat (N A) (N B) bn bd (N (A % B)).length ((N (A % B)).map u32) (2 * qn + s) _ fS hn0 ln cBn cBd hk (by omega) (by omega) (by omega) (by omega) rfl rfl cS1 cS2 (by omega) (by omega) (by simp) g hw cJ
theorem step_sign {x y : Nat} (hx : x < 18446744073709551616) (h : rg x < 9218868437227405312) (hy : y = nextW x ∨ y = prevW x) : sgx y = sgx x ∨ rg y = 0 := by
  have h1' : rg x = x % 9223372036854775808 := rfl
  have hyb : y < 18446744073709551616 := by
    rcases hy with rfl | rfl
    · exact next_lt hx
    · exact prev_lt hx
  have key : (9223372036854775808 ≤ y ↔ 9223372036854775808 ≤ x) ∨ y % 9223372036854775808 = 0 := by
    rcases hy with rfl | rfl
    · unfold nextW
      rw [if_neg (by omega), if_neg (by omega)]
      split
      · right; rfl
      · split <;> omega
    · unfold prevW
      rw [if_neg (by omega), if_neg (by omega)]
      split
      · right; rfl
      · split <;> omega
  rcases key with h2 | h2
  · left
    rw [sgx_eq hyb, sgx_eq hx]
    exact decide_eq_decide.2 h2
  · right; exact h2
theorem abs_sign (b : Bool) (a c K D : Int) : ((if b = true then -a else a) * D - (if b = true then -c else c) * K).natAbs = (a * D - c * K).natAbs := by
  cases b
  · rfl
  · rw [if_pos rfl, if_pos rfl, Int.neg_mul, Int.neg_mul, show -(a * D) - -(c * K) = -(a * D - c * K) by omega, Int.natAbs_neg]
theorem near_all2 (b : Bool) (n d : List Int) (hn : Wf n) (hd : Wf d) (hf : formB b n d = true) : ∃ x : Nat, Spec Tryz.prog 11 [RA b n d] (.tup [f64 x, .sc (.int .i64 0)]) ∧ x < 18446744073709551616 ∧ rg x ≤ 9218868437227405312 ∧
    (rg x < 9218868437227405312 → ∀ y : Nat, y = nextW x ∨ y = prevW x → (kmg x * val d - sv b n * 2 ^ 1074).natAbs ≤ (kmg y * val d - sv b n * 2 ^ 1074).natAbs) := by
  have hF := of_decide_eq_true hf
  obtain ⟨f1, f2, _, _, _⟩ := hF
  obtain ⟨ln, _⟩ := of_decide_eq_true f1
  obtain ⟨ld, _⟩ := of_decide_eq_true f2
  by_cases h0 : n.length = 0
  · refine ⟨0, (s_NearB b n d hn hd (by omega) (by omega) hf h0).1, by decide, by decide, fun _ y _ => ?_⟩
    have e1 : kmg 0 = 0 := rfl
    have e2 : sv b n = 0 := by
      unfold sv
      rw [List.eq_nil_of_length_eq_zero h0]
      cases b <;> rfl
    rw [e1, e2, Int.zero_mul, Int.zero_mul]
    exact Nat.zero_le _
  · obtain ⟨R, c, hR, hb⟩ := near_best2 b n d hn hd hf h0
    obtain ⟨s1, s2, s3⟩ := sw_rg b hR
    refine ⟨sw b R, c, s3, by omega, fun hi y hy => ?_⟩
    rw [s1] at hi
    have hs := step_sign s3 (by omega) hy
    rw [s2] at hs
    have ky : ∃ r : Nat, kmg y = if b = true then -(mg r : Int) else mg r := by
      rcases hs with hs | hs
      · exact ⟨rg y, by unfold kmg; rw [hs]⟩
      · refine ⟨0, ?_⟩
        unfold kmg
        rw [hs, mg_zero]
        cases sgx y <;> cases b <;> rfl
    obtain ⟨r, hr⟩ := ky
    have kx : kmg (sw b R) = if b = true then -(mg R : Int) else mg R := by
      unfold kmg
      rw [s1, s2]
    rw [hr, kx]
    unfold sv
    rw [abs_sign, abs_sign]
    exact hb hi r
theorem exact_val (x : Nat) (hx : x < 18446744073709551616) : (∃ z : Int, z ≠ 0 ∧ Spec Tryz.prog 7 [f64 x] (resR ((false, [], []), z))) ∨
    (rg x < 9218868437227405312 ∧ ∃ (b : Bool) (n d : List Int), Spec Tryz.prog 7 [f64 x] (resR ((b, n, d), 0)) ∧ Wf n ∧ Wf d ∧ formB b n d = true ∧ sv b n * 2 ^ 1074 = kmg x * val d) := by
  rcases Nat.lt_or_ge (rg x) 9218868437227405312 with h1 | h1
  · rcases Nat.eq_zero_or_pos (rg x) with h0 | h0
    · right
      refine ⟨h1, false, [], [1], ?_, by simp [Wf], by simp [Wf], by decide +kernel, ?_⟩
      · have e1 := s_Exact1 x _ 0 0 (by decide) (by decide) (s_PartsB x hx h0)
        rw [show mkR (sgx x) (((0 : Nat) : Int) * 2 ^ (0 : Int).toNat) (1 * 2 ^ (-(0 : Int)).toNat) = ((false, [], [1]), 0) from rfl] at e1
        exact e1
      · have : kmg x = 0 := by
          unfold kmg
          rw [h0, mg_zero]
          cases sgx x <;> rfl
        rw [this]
        show (0 : Int) * _ = 0 * _
        rw [Int.zero_mul, Int.zero_mul]
    · obtain ⟨k, w, hm⟩ := odd_part _ (mg (rg x)) (Nat.le_refl _) (mg_pos h0)
      obtain ⟨j0, b1, b2, b3, b4⟩ := mg_bound h1 hm h0
      have hk : 2 * k + 1 < 9007199254740992 := Nat.lt_of_le_of_lt (Nat.le_mul_of_pos_right _ (Nat.two_pow_pos j0)) b3
      have hw2 : w ≤ 2170 := by
        have hj : j0 < 53 := (Nat.pow_lt_pow_iff_right (by decide)).1 (Nat.lt_of_le_of_lt (Nat.le_mul_of_pos_left (2 ^ j0) (show 0 < 2 * k + 1 by omega)) b3)
        omega
      have e1 := s_Exact1 x _ _ _ hk ⟨by omega, by omega⟩ (s_Parts1 x k w hx h0 h1 hm)
      obtain ⟨E, hE⟩ : ∃ E, E = ((w : Int) - 1074).toNat := ⟨_, rfl⟩
      obtain ⟨F, hF⟩ : ∃ F, F = (-((w : Int) - 1074)).toNat := ⟨_, rfl⟩
      rw [← hE, ← hF, Int.one_mul, ← two_cast, ← two_cast, ← Int.natCast_mul] at e1
      have hg : Int.gcd (((2 * k + 1) * 2 ^ E : Nat) : Int) ((2 ^ F : Nat) : Int) = 1 := by
        show Nat.gcd ((2 * k + 1) * 2 ^ E) (2 ^ F) = 1
        rcases show E = 0 ∨ F = 0 by omega with h | h
        · rw [h, Nat.pow_zero, Nat.mul_one]
          refine Nat.Coprime.pow_right F ?_
          rw [Nat.Coprime, Nat.gcd_comm, Nat.gcd_rec, show (2 * k + 1) % 2 = 1 by omega]
          decide
        · rw [h, Nat.pow_zero, Nat.gcd_one_right]
      have u0 : 0 < (2 * k + 1) * 2 ^ E := Nat.mul_pos (by omega) (Nat.two_pow_pos _)
      have v0 : 0 < 2 ^ F := Nat.two_pow_pos _
      have hval : (((2 * k + 1) * 2 ^ E : Nat) : Int) * 2 ^ 1074 = (mg (rg x) : Int) * ((2 ^ F : Nat) : Int) := by
        rw [← two_cast, ← Int.natCast_mul, ← Int.natCast_mul, hm, Nat.mul_assoc, Nat.mul_assoc, ← Nat.pow_add, ← Nat.pow_add, show E + 1074 = w + F by omega]
      obtain ⟨u, hu⟩ : ∃ u : Nat, u = (2 * k + 1) * 2 ^ E := ⟨_, rfl⟩
      obtain ⟨v, hv⟩ : ∃ v : Nat, v = 2 ^ F := ⟨_, rfl⟩
      rw [← hu, ← hv] at e1 hg hval
      rw [← hu] at u0
      rw [← hv] at v0
      unfold mkR at e1
      rw [if_neg (by omega), if_neg (by omega), hg, show ((1 : Nat) : Int) = 1 from rfl, Int.ediv_one, Int.ediv_one] at e1
      by_cases hl : (N (u : Int)).length ≤ 16 ∧ (N (v : Int)).length ≤ 16
      · rw [if_pos hl] at e1
        right
        have nz : ∀ z : Nat, 0 < z → (N (z : Int)).length ≠ 0 := fun z hz h => by
          have := (N_len0 (Int.natCast_nonneg z)).1 h
          omega
        refine ⟨h1, sgx x, N u, N v, e1, N_wf _, N_wf _, ?_, ?_⟩
        · rw [formB, decide_eq_true]
          refine ⟨decide_eq_true ⟨hl.1, (N_is (by omega)).nm⟩, decide_eq_true ⟨hl.2, (N_is (by omega)).nm⟩, nz v v0, fun _ => nz u u0, ?_⟩
          rw [N_val (by omega), N_val (by omega)]
          exact hg
        · unfold sv kmg
          rw [N_val (by omega), N_val (by omega)]
          split
          · rw [Int.neg_mul, Int.neg_mul, hval]
          · exact hval
      · rw [if_neg hl] at e1
        exact .inl ⟨4, by decide, e1⟩
  · exact .inl ⟨30, by decide, s_ExactA x (s_PartsA x hx h1)⟩
end Go.Ab
end
section
namespace Go.Ab
open Go Go.Proofs Go.Proofs.YtiamjfckgmnijaaGreatDoor.Pl
set_option maxRecDepth 100000
set_option maxHeartbeats 8000000
theorem sub_abs {p q : RT} (wp : Wf p.2.1) (wpd : Wf p.2.2) (wn : Wf q.2.1) (wd : Wf q.2.2) (fq : formR q = true) : ∃ g, addR p (turnR q) = mkR g (((sv p.1 p.2.1 * val q.2.2 - sv q.1 q.2.1 * val p.2.2).natAbs : Nat) : Int) (val p.2.2 * val q.2.2) := by
  obtain ⟨a1, a2, a3, t1, t2, a6, a7⟩ := form_len fq
  have x0 : 0 ≤ val p.2.1 * val q.2.2 := Int.mul_nonneg (val_nonneg wp) (val_nonneg wd)
  have y0 : 0 ≤ val q.2.1 * val p.2.2 := Int.mul_nonneg (val_nonneg wn) (val_nonneg wpd)
  have ez : q.2.1.length = 0 → val q.2.1 = 0 := fun h => by rw [List.eq_nil_of_length_eq_zero h]; rfl
  obtain ⟨pb, pn, pd⟩ := p
  obtain ⟨qb, qn, qd⟩ := q
  simp only at *
  unfold addR turnR sv
  simp only
  rw [N_val (val_nonneg wn), N_val (val_nonneg wd)]
  rcases Nat.eq_zero_or_pos qn.length with h0 | h0
  · have hb : qb = false := by
      cases qb
      · rfl
      · exact absurd h0 (a6 rfl)
    subst hb
    rw [ez h0, h0] at *
    simp only [Int.zero_mul] at *
    cases pb
    · refine ⟨false, ?_⟩
      rw [if_pos (by decide), if_neg (by decide), if_neg (by decide), Int.zero_mul]
      congr 1
      omega
    · refine ⟨true, ?_⟩
      rw [if_neg (by decide), if_neg (by omega), if_pos rfl, if_neg (by decide), Int.zero_mul, Int.neg_mul]
      congr 1
      omega
  · rw [decide_eq_true h0, Bool.and_true]
    cases pb <;> cases qb
    · rw [if_neg (by decide)]
      by_cases h : val pn * val qd < val qn * val pd
      · rw [if_pos h]
        refine ⟨!false, ?_⟩
        rw [if_neg (by decide), if_neg (by decide)]
        congr 1
        omega
      · rw [if_neg h]
        refine ⟨false, ?_⟩
        rw [if_neg (by decide), if_neg (by decide)]
        congr 1
        omega
    · rw [if_pos (by decide)]
      refine ⟨false, ?_⟩
      rw [if_neg (by decide), if_pos rfl, Int.neg_mul]
      congr 1
      omega
    · rw [if_pos (by decide)]
      refine ⟨true, ?_⟩
      rw [if_pos rfl, if_neg (by decide), Int.neg_mul]
      congr 1
      omega
    · rw [if_neg (by decide)]
      by_cases h : val pn * val qd < val qn * val pd
      · rw [if_pos h]
        refine ⟨!true, ?_⟩
        rw [if_pos rfl, if_pos rfl, Int.neg_mul, Int.neg_mul]
        congr 1
        omega
      · rw [if_neg h]
        refine ⟨true, ?_⟩
        rw [if_pos rfl, if_pos rfl, Int.neg_mul, Int.neg_mul]
        congr 1
        omega
theorem mk_worth {g : Bool} {D V : Int} (hD : 0 ≤ D) (hV : 0 < V) : (∃ z : Int, z ≠ 0 ∧ mkR g D V = ((false, [], []), z)) ∨ ∃ b n d, mkR g D V = ((b, n, d), 0) ∧ Wf n ∧ Wf d ∧ formB false n d = true ∧ val n * V = D * val d ∧ 0 < val d := by
  unfold mkR
  rw [if_neg (by omega)]
  by_cases h0 : D = 0
  · rw [if_pos h0]
    refine .inr ⟨false, [], [1], rfl, by simp [Wf], by simp [Wf], by decide +kernel, ?_, by decide⟩
    rw [h0, Int.zero_mul]
    exact Int.zero_mul _
  · rw [if_neg h0]
    have gp : 0 < Int.gcd D V := Nat.gcd_pos_of_pos_right D.natAbs (by omega)
    have du : ((Int.gcd D V : Nat) : Int) ∣ D := Int.gcd_dvd_left ..
    have dv : ((Int.gcd D V : Nat) : Int) ∣ V := Int.gcd_dvd_right ..
    have u1 : 0 < D / (Int.gcd D V : Nat) := Int.ediv_pos_of_pos_of_dvd (by omega) (by omega) du
    have v1 : 0 < V / (Int.gcd D V : Nat) := Int.ediv_pos_of_pos_of_dvd (by omega) (by omega) dv
    have gg : Int.gcd (D / (Int.gcd D V : Nat)) (V / (Int.gcd D V : Nat)) = 1 := Int.gcd_ediv_gcd_ediv_gcd gp
    have eD := Int.ediv_mul_cancel du
    have eV := Int.ediv_mul_cancel dv
    generalize ((Int.gcd D V : Nat) : Int) = G at *
    generalize D / G = u at *
    generalize V / G = v at *
    by_cases hl : (N u).length ≤ 16 ∧ (N v).length ≤ 16
    · rw [if_pos hl]
      refine .inr ⟨_, _, _, rfl, N_wf _, N_wf _, ?_, ?_, ?_⟩
      · rw [formB, decide_eq_true]
        refine ⟨decide_eq_true ⟨hl.1, (N_is (by omega)).nm⟩, decide_eq_true ⟨hl.2, (N_is (by omega)).nm⟩, ?_, nofun, ?_⟩
        · exact fun h => by
            have := (N_len0 (show 0 ≤ v by omega)).1 h
            omega
        · rw [N_val (by omega), N_val (by omega)]
          exact gg
      · rw [N_val (by omega), N_val (by omega), ← eD, ← eV, Int.mul_assoc, Int.mul_comm G v]
      · rw [N_val (by omega)]; exact v1
    · rw [if_neg hl]
      exact .inl ⟨4, by decide, rfl⟩
theorem s_away (p q : RT) (hp : RW p) (hq : RW q) (fp : formR p = true) (fq : formR q = true) (V : Int) (hV : V = val p.2.2 * val q.2.2) (D : Int) (hD : D = ((sv p.1 p.2.1 * val q.2.2 - sv q.1 q.2.1 * val p.2.2).natAbs : Nat)) :
    Spec Tryz.prog 16 [RA p.1 p.2.1 p.2.2, RA q.1 q.2.1 q.2.2] (.sc (.string ⟨#[]⟩)) ∨ ∃ n d, Spec Tryz.prog 16 [RA p.1 p.2.1 p.2.2, RA q.1 q.2.1 q.2.2] (.sc (.string ⟨(tx2 n d).toArray⟩)) ∧ Wf n ∧ Wf d ∧ formB false n d = true ∧ val n * V = D * val d ∧ 0 < val d := by
  have cS := q2_Sub p q hp hq
  rw [ifF, if_pos (by rw [fp, fq]; rfl)] at cS
  obtain ⟨g, hg⟩ := sub_abs hp.wn hp.wd hq.wn hq.wd fq
  obtain ⟨_, _, p3, _, p5, _, _⟩ := form_len fp
  obtain ⟨_, _, q3, _, q5, _, _⟩ := form_len fq
  have vp := val_ne hp.wd p5 p3
  have vq := val_ne hq.wd q5 q3
  have vp0 := val_nonneg hp.wd
  have vq0 := val_nonneg hq.wd
  have hV0 : 0 < V := by rw [hV]; exact Int.mul_pos (by omega) (by omega)
  rw [hg, ← hV, ← hD] at cS
  rcases mk_worth (g := g) (show 0 ≤ D by omega) hV0 with ⟨z, hz, e⟩ | ⟨b, n, d, e, wn, wd, f, h1, h2⟩
  · rw [e] at cS
    left
    refine spec_of_awp mixed Tryz.func16 rfl Tryz.call16 (by kernel_rfl) (by simp) rfl ?_
    refine T (call_by cS ?_)
    refine T (r_ret ?_)
    rw [Tryz.results16]
    refine R ?_
    exact Wk.refl _
  · rw [e] at cS
    have cT := q2_Text n d wn wd f
    refine .inr ⟨n, d, ?_, wn, wd, f, h1, h2⟩
    refine spec_of_awp mixed Tryz.func16 rfl Tryz.call16 (by kernel_rfl) (by simp) rfl ?_
    refine T (call_by cS ?_)
    refine T (call_by cT ?_)
    refine T (r_ret ?_)
    rw [Tryz.results16]
    refine R ?_
    exact Wk.refl _
theorem s_less (n d m e : List Int) (wn : Wf n) (wd : Wf d) (wm : Wf m) (we : Wf e) (f : formB false n d = true) (g : formB false m e = true) (h : ¬ val n * val e < val m * val d) : Spec Tryz.prog 19 [.sc (.string ⟨(tx2 n d).toArray⟩), .sc (.string ⟨(tx2 m e).toArray⟩)] (.sc (.bool false)) := by
  have c1 := q2_Read n d wn wd f
  have c2 := q2_Read m e wm we g
  have l1 := form_len (p := (false, n, d)) f
  have l2 := form_len (p := (false, m, e)) g
  simp only at l1 l2
  have cC := q2_Cmp (false, n, d) (false, m, e) ⟨wn, wd, by show n.length ≤ _; omega, by show d.length ≤ _; omega⟩ ⟨wm, we, by show m.length ≤ _; omega, by show e.length ≤ _; omega⟩
  have ec : ∃ z : Int, 0 ≤ z ∧ cmpR (false, n, d) (false, m, e) = (z, 0) := by
    refine ⟨sgn (val n * val e) (val m * val d), ?_, ?_⟩
    · unfold sgn
      rw [if_neg h]
      split <;> omega
    · unfold cmpR
      rw [if_pos (by rw [show formR (false, n, d) = true from f, show formR (false, m, e) = true from g]; rfl), if_neg (by simp), if_neg (by simp), if_neg (by simp)]
  obtain ⟨z, hz, ez⟩ := ec
  rw [ez] at cC
  generalize (⟨(tx2 n d).toArray⟩ : ByteArray) = s at *
  generalize (⟨(tx2 m e).toArray⟩ : ByteArray) = t at *
  refine spec_of_awp mixed Tryz.func19 rfl Tryz.call19 (by kernel_rfl) (by simp) rfl ?_
  refine T (call_by c1 ?_)
  refine T (call_by c2 ?_)
  refine T (call_by cC ?_)
  exact TR rfl
end Go.Ab
end
