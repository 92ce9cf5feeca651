import Derived.Test.YtiamjfckgmnijaaGreatDoorFnR
set_option linter.all false
section
namespace Go.Ab
open Go Go.Proofs Go.Proofs.YtiamjfckgmnijaaGreatDoor.Pl
set_option maxRecDepth 100000
set_option maxHeartbeats 8000000
theorem limb_one {N : Nat} : (1 : Int) ≤ 2 ^ (N % 32) ∧ (2 : Int) ^ (N % 32) * 2 ≤ 4294967296 := by
  have h : N % 32 < 32 := Nat.mod_lt _ (by decide)
  generalize N % 32 = j at *
  have h1 := (pow_bd (s := j) (by omega)).1
  have h2 := (pow_bd (s := j + 1) (by omega)).2
  rw [Int.pow_succ] at h2
  exact ⟨h1, h2⟩
def rV (n0 N' : Nat) (v : Int) : AV := if N' = n0 then .sc (.slice none 0 0) else U (N v)
theorem q_Divide (a b : List Int) (ha : Wf a) (hb : Wf b) (la : a.length ≤ 35184372087900) (lb : b.length ≤ 35184372087900) (hB : val b ≠ 0) : Spec Tryz.prog 36 [U a, U b] (.tup [U (N (val a / val b)), U (N (val a % val b))]) := by
  refine spec_of_awp mixed Tryz.func36 rfl Tryz.call36 (by kernel_rfl) (by simp) rfl ?_
  refine T (call_by (q_Bits a ha la) ?_)
  have hB0 : 0 < val b := by have := val_nonneg hb; omega
  have hA := val_nonneg ha
  have la' : (N (val a)).length ≤ a.length := by rw [← trim_N ha]; exact trim_len a
  have nb := bitsL_bd (N_wf (val a))
  have nl := bitsL_lt (N_wf (val a)) (N_trim hA)
  rw [N_val hA] at nl
  obtain ⟨n0, hn0⟩ := Int.eq_ofNat_of_zero_le nb.1
  rw [hn0] at nl nb ⊢
  rw [Int.toNat_natCast] at nl
  have z0 : val a / 2 ^ n0 = 0 := Int.ediv_eq_zero_of_lt hA nl
  refine T ?_
  refine w_loop (α := Nat × List Int) (fun p => [(.t 0, U a), (.t 1, U b), (.t 7, .hs 15 1 0 (n0 / 32 + 1) 1), (.t 8, rV n0 p.1 (val a / 2 ^ p.1 % val b)), (.t 9, .sc (.int .i64 ((p.1 : Int) - 1))), (.h 15, .blk 1 2 (p.2.map u32))])
    (fun p => p.1 ≤ n0 ∧ p.2.length = n0 / 32 + 1 ∧ Wf p.2 ∧ val p.2 = val a / 2 ^ p.1 / val b * 2 ^ p.1)
    (fun p => p.1) (n0, List.replicate (n0 / 32 + 1) 0) ⟨Nat.le_refl _, by simp, Wf.zeros _, by show val (List.replicate _ 0) = val a / 2 ^ n0 / val b * 2 ^ n0; rw [val_zeros, z0, Int.zero_ediv, Int.zero_mul]⟩ ?_ ?_
  · dsimp only [rV]
    rw [if_pos rfl]
    exact Hv
  rintro ⟨k, q⟩ r ⟨h1, h2, h3, h4⟩ J hJ
  simp only at h1 h2 h3 h4
  have H4 := Hd.mk h4
  clear h4
  rcases k with _ | k
  · have h4 := H4.out
    rw [Int.pow_zero, Int.ediv_one, Int.mul_one] at h4
    dsimp only [rV]
    rw [Int.pow_zero, Int.ediv_one]
    by_cases hz : 0 = n0
    · rw [if_pos hz]
      have za : val a = 0 := by
        rw [← hz, Int.pow_zero, Int.ediv_one] at z0
        exact z0
      refine T ?_
      refine call_eq (by rw [← h2]) (q_Trim q (by omega)) ?_
      refine T (r_ret ?_)
      refine R ?_
      rw [trim_N h3, h4, za]
      simp only [N_zero]
      exact Wk.tup (WkL.cons (Wk.refl _) (WkL.cons Wk.nil (WkL.refl _)))
    · rw [if_neg hz]
      refine T ?_
      refine call_eq (by rw [← h2]) (q_Trim q (by omega)) ?_
      refine TR ?_
      rw [trim_N h3, h4]
  · have hH : 0 ≤ val a / 2 ^ (k + 1) := Int.ediv_nonneg hA (Int.le_of_lt (Int.pow_pos (by decide)))
    have eH := half_pow (val a) k hA
    have db := divbit (e := val a / 2 ^ k % 2) hB0 hH (by omega)
    rw [← eH] at db
    have r0 := Int.emod_nonneg (val a / 2 ^ (k + 1)) (show val b ≠ 0 by omega)
    have r1 := Int.emod_lt_of_pos (val a / 2 ^ (k + 1)) hB0
    have hr0 : k + 1 = n0 → val a / 2 ^ (k + 1) % val b = 0 := fun h => by rw [h, z0, Int.zero_emod]
    have hkn : k ≠ n0 := by omega
    have room := limb_room q h3 (k / 32) (k % 32) (by omega) (Nat.mod_lt _ (by decide)) (val a / 2 ^ (k + 1) / val b) (by rw [H4.out, show 32 * (k / 32) + k % 32 + 1 = k + 1 by omega])
    have lo := limb_one (N := k)
    have wq := h3.at (k / 32)
    have lenb : b.length ≤ 35184372087900 := lb
    have finG : val b ≤ 2 * (val a / 2 ^ (k + 1) % val b) + val a / 2 ^ k % 2 → ∀ s', Has [(.t 0, U a), (.t 1, U b), (.t 7, .hs 15 1 0 (n0 / 32 + 1) 1), (.t 8, U (N (2 * (val a / 2 ^ (k + 1) % val b) + val a / 2 ^ k % 2 - val b))), (.t 9, .sc (.int .i64 ((k : Int) - 1))), (.h 15, .blk 1 2 ((q.set (k / 32) (q.getD (k / 32) 0 + 2 ^ (k % 32))).map u32))] s' → J s' := by
      intro hc s' hs'
      obtain ⟨d1, d2⟩ := db.1 hc
      refine hJ s' (k, q.set (k / 32) (q.getD (k / 32) 0 + 2 ^ (k % 32))) (by show k < k + 1; omega) ⟨by show k ≤ n0; omega, by simp [h2], Wf.set h3 _ (by omega) (by omega), ?_⟩ ?_
      · show val (q.set (k / 32) _) = val a / 2 ^ k / val b * 2 ^ k
        rw [val_set q (k / 32) _ (by omega), H4.out, d1, show q.getD (k / 32) 0 + 2 ^ (k % 32) - q.getD (k / 32) 0 = 2 ^ (k % 32) by omega, ← pow_parts k, Int.pow_succ]
        grind
      · dsimp only [rV]
        rw [if_neg hkn, d2]
        exact hs'
    have finL : ¬ val b ≤ 2 * (val a / 2 ^ (k + 1) % val b) + val a / 2 ^ k % 2 → ∀ s', Has [(.t 0, U a), (.t 1, U b), (.t 7, .hs 15 1 0 (n0 / 32 + 1) 1), (.t 8, U (N (2 * (val a / 2 ^ (k + 1) % val b) + val a / 2 ^ k % 2))), (.t 9, .sc (.int .i64 ((k : Int) - 1))), (.h 15, .blk 1 2 (q.map u32))] s' → J s' := by
      intro hc s' hs'
      obtain ⟨d1, d2⟩ := db.2 hc
      refine hJ s' (k, q) (by show k < k + 1; omega) ⟨by show k ≤ n0; omega, h2, h3, ?_⟩ ?_
      · show val q = val a / 2 ^ k / val b * 2 ^ k
        rw [H4.out, d1, Int.pow_succ]
        grind
      · dsimp only [rV]
        rw [if_neg hkn, d2]
        exact hs'
    clear db eH
    have e01 : val a / 2 ^ k % 2 = 0 ∨ val a / 2 ^ k % 2 = 1 := by omega
    have ebit := bitL_eq ha k
    have lR : (N (val a / 2 ^ (k + 1) % val b)).length ≤ b.length := (N_is r0).len (Int.lt_trans r1 (val_lt hb))
    generalize val a / 2 ^ k % 2 = e at *
    generalize val a / 2 ^ (k + 1) % val b = R at *
    have l2 : (N (2 * R)).length ≤ 35184372088000 := by
      refine Nat.le_trans ((N_is (by omega)).len (n := b.length + 1) ?_) (by omega)
      rw [Int.pow_succ]
      have := val_lt hb
      omega
    have l3 : (N (2 * R + 1)).length ≤ 35184372088000 := by
      refine Nat.le_trans ((N_is (by omega)).len (n := b.length + 1) ?_) (by omega)
      rw [Int.pow_succ]
      have := val_lt hb
      omega
    dsimp only [rV]
    have cast : ∀ h : k + 1 = n0, val [] * 2 ^ 1 = 2 * R := fun h => by rw [hr0 h]; rfl
    rcases e01 with he | he
    · subst he
      rw [decide_eq_false (by decide)] at ebit
      rw [Int.add_zero] at finG finL
      by_cases hc : val b ≤ 2 * R
      · have e3 := sgn_ge.2 hc
        by_cases hk : k + 1 = n0
        · have := hr0 hk
          omega
        · rw [if_neg hk]
          refine T (call_by (q_Shl (N R) 1 (N_wf _) (by omega) (by omega)) ?_)
          rw [N_val r0, Int.pow_one, Int.mul_comm]
          refine T (call_by (q_Bit a k ha (by omega) (by omega)) ?_)
          rw [ebit]
          refine T (call_by (q_Cmp (N (2 * R)) b (N_wf _) hb (by omega) (by omega)) ?_)
          rw [N_val (show 0 ≤ 2 * R by omega)]
          refine T (call_by (q_Minus (N (2 * R)) b (N_wf _) hb (by omega) (by omega) (by rw [N_val (show 0 ≤ 2 * R by omega)]; exact hc)) ?_)
          rw [N_val (show 0 ≤ 2 * R by omega)]
          refine T ?_
          refine finG hc _ (H ?_)
          rw [Int.one_mul]
      · have e3 : ¬ sgn (2 * R) (val b) ≥ 0 := fun h => hc (sgn_ge.1 h)
        by_cases hk : k + 1 = n0
        · rw [if_pos hk]
          refine T (call_wk (WkL.cons Wk.nil (WkL.refl _)) (q_Shl [] 1 Wf.nil (by simp) (by decide)) ?_)
          rw [cast hk]
          refine T (call_by (q_Bit a k ha (by omega) (by omega)) ?_)
          rw [ebit]
          refine T (call_by (q_Cmp (N (2 * R)) b (N_wf _) hb (by omega) (by omega)) ?_)
          rw [N_val (show 0 ≤ 2 * R by omega)]
          refine T ?_
          exact finL hc _ Hv
        · rw [if_neg hk]
          refine T (call_by (q_Shl (N R) 1 (N_wf _) (by omega) (by omega)) ?_)
          rw [N_val r0, Int.pow_one, Int.mul_comm]
          refine T (call_by (q_Bit a k ha (by omega) (by omega)) ?_)
          rw [ebit]
          refine T (call_by (q_Cmp (N (2 * R)) b (N_wf _) hb (by omega) (by omega)) ?_)
          rw [N_val (show 0 ≤ 2 * R by omega)]
          refine T ?_
          exact finL hc _ Hv
    · subst he
      rw [decide_eq_true (by decide)] at ebit
      by_cases hc : val b ≤ 2 * R + 1
      · have e3 := sgn_ge.2 hc
        by_cases hk : k + 1 = n0
        · rw [if_pos hk]
          refine T (call_wk (WkL.cons Wk.nil (WkL.refl _)) (q_Shl [] 1 Wf.nil (by simp) (by decide)) ?_)
          rw [cast hk]
          refine T (call_by (q_Bit a k ha (by omega) (by omega)) ?_)
          rw [ebit]
          refine T (call_by (q_Plus (N (2 * R)) [1] (N_wf _) (Wf.one (by decide) (by decide)) (by omega) (by decide)) ?_)
          rw [N_val (show 0 ≤ 2 * R by omega), val_one]
          refine T (call_by (q_Cmp (N (2 * R + 1)) b (N_wf _) hb (by omega) (by omega)) ?_)
          rw [N_val (show 0 ≤ 2 * R + 1 by omega)]
          refine T (call_by (q_Minus (N (2 * R + 1)) b (N_wf _) hb (by omega) (by omega) (by rw [N_val (show 0 ≤ 2 * R + 1 by omega)]; exact hc)) ?_)
          rw [N_val (show 0 ≤ 2 * R + 1 by omega)]
          refine T ?_
          refine finG hc _ (H ?_)
          rw [Int.one_mul]
        · rw [if_neg hk]
          refine T (call_by (q_Shl (N R) 1 (N_wf _) (by omega) (by omega)) ?_)
          rw [N_val r0, Int.pow_one, Int.mul_comm]
          refine T (call_by (q_Bit a k ha (by omega) (by omega)) ?_)
          rw [ebit]
          refine T (call_by (q_Plus (N (2 * R)) [1] (N_wf _) (Wf.one (by decide) (by decide)) (by omega) (by decide)) ?_)
          rw [N_val (show 0 ≤ 2 * R by omega), val_one]
          refine T (call_by (q_Cmp (N (2 * R + 1)) b (N_wf _) hb (by omega) (by omega)) ?_)
          rw [N_val (show 0 ≤ 2 * R + 1 by omega)]
          refine T (call_by (q_Minus (N (2 * R + 1)) b (N_wf _) hb (by omega) (by omega) (by rw [N_val (show 0 ≤ 2 * R + 1 by omega)]; exact hc)) ?_)
          rw [N_val (show 0 ≤ 2 * R + 1 by omega)]
          refine T ?_
          refine finG hc _ (H ?_)
          rw [Int.one_mul]
      · have e3 : ¬ sgn (2 * R + 1) (val b) ≥ 0 := fun h => hc (sgn_ge.1 h)
        by_cases hk : k + 1 = n0
        · rw [if_pos hk]
          refine T (call_wk (WkL.cons Wk.nil (WkL.refl _)) (q_Shl [] 1 Wf.nil (by simp) (by decide)) ?_)
          rw [cast hk]
          refine T (call_by (q_Bit a k ha (by omega) (by omega)) ?_)
          rw [ebit]
          refine T (call_by (q_Plus (N (2 * R)) [1] (N_wf _) (Wf.one (by decide) (by decide)) (by omega) (by decide)) ?_)
          rw [N_val (show 0 ≤ 2 * R by omega), val_one]
          refine T (call_by (q_Cmp (N (2 * R + 1)) b (N_wf _) hb (by omega) (by omega)) ?_)
          rw [N_val (show 0 ≤ 2 * R + 1 by omega)]
          refine T ?_
          exact finL hc _ Hv
        · rw [if_neg hk]
          refine T (call_by (q_Shl (N R) 1 (N_wf _) (by omega) (by omega)) ?_)
          rw [N_val r0, Int.pow_one, Int.mul_comm]
          refine T (call_by (q_Bit a k ha (by omega) (by omega)) ?_)
          rw [ebit]
          refine T (call_by (q_Plus (N (2 * R)) [1] (N_wf _) (Wf.one (by decide) (by decide)) (by omega) (by decide)) ?_)
          rw [N_val (show 0 ≤ 2 * R by omega), val_one]
          refine T (call_by (q_Cmp (N (2 * R + 1)) b (N_wf _) hb (by omega) (by omega)) ?_)
          rw [N_val (show 0 ≤ 2 * R + 1 by omega)]
          refine T ?_
          exact finL hc _ Hv
end Go.Ab
end
