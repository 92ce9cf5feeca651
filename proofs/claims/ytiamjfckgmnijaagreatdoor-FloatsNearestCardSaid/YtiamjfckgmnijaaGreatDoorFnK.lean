import Derived.Test.YtiamjfckgmnijaaGreatDoorFnJ
import Derived.Lib.ItoaNum
set_option linter.all false
section
namespace Go.Ab
open Go Go.Proofs Go.Proofs.YtiamjfckgmnijaaGreatDoor.Pl
set_option maxRecDepth 100000
set_option maxHeartbeats 8000000
theorem call_l {P : Program} {B : Nat} {ops : Array Oper} {K : S → Prop} {rest : List Oper} {s : S} {d : Option Tmp} {f : FuncId} {raw ys zs : List AV} {ks : List Nat} {x : Option (List AV × List Nat)} {k g G : Nat} {cs L' : List AV} {r : AV} (h0 : hall s k = .blk g 2 cs) (h1 : cs.all AV.fz = true) (h2 : frzHL (hall s) k raw = some (ys, ks)) (h3 : ks.contains k = false) (h4 : AV.keepL k g ys = true)
    (h5 : AV.toL KA 1 ys = zs) (h6 : SpecH P f zs cs r G L') (hK : AOps0 P B ops K rest (put (appH s (fzs s ks ++ [(k, .blk (g + (G - 1)) 2 L')])) d (r.to k (g + (G - 1))))) : ACall P B ops K rest s d f raw x := call_h h0 h1 h2 h3 h4 h5 h6 hK
theorem lz_eq {x : Int} (h : 1 ≤ x ∧ x < 4294967296) : ∃ s : Nat, s < 32 ∧ (32 : Int) - (Lib.bitLen x.toNat : Int) = (s : Int) ∧ 2147483648 ≤ x * 2 ^ s ∧ x * 2 ^ s < 4294967296 := by
  obtain ⟨n, rfl⟩ := Int.eq_ofNat_of_zero_le (show 0 ≤ x by omega)
  have hn : n ≠ 0 := by omega
  obtain ⟨h1, h2, h3⟩ := Lib.bitLenAux_bounds 64 n (by omega) hn
  have h4 := Lib.bitLen_le n 32 (by decide) (by omega)
  rw [Int.toNat_natCast]
  have e : Lib.bitLen n = Lib.bitLenAux 64 n := rfl
  rw [← e] at h1 h2 h3
  refine ⟨32 - Lib.bitLen n, by omega, by omega, ?_, ?_⟩
  · have : 2 ^ (Lib.bitLen n - 1) * 2 ^ (32 - Lib.bitLen n) ≤ n * 2 ^ (32 - Lib.bitLen n) := Nat.mul_le_mul_right _ h2
    rw [← Nat.pow_add, show Lib.bitLen n - 1 + (32 - Lib.bitLen n) = 31 from by omega] at this
    have h5 : ((2 ^ 31 : Nat) : Int) ≤ ((n * 2 ^ (32 - Lib.bitLen n) : Nat) : Int) := Int.ofNat_le.2 this
    simpa using h5
  · have : n * 2 ^ (32 - Lib.bitLen n) < 2 ^ Lib.bitLen n * 2 ^ (32 - Lib.bitLen n) := Nat.mul_lt_mul_of_pos_right h3 (Nat.pow_pos (by decide))
    rw [← Nat.pow_add, show Lib.bitLen n + (32 - Lib.bitLen n) = 32 from by omega] at this
    have h5 : ((n * 2 ^ (32 - Lib.bitLen n) : Nat) : Int) < ((2 ^ 32 : Nat) : Int) := Int.ofNat_lt.2 this
    simpa using h5
theorem setAt_eq : ∀ (vs cs : List AV) (i : Nat), i + vs.length ≤ cs.length → setAt cs i vs = cs.take i ++ vs ++ cs.drop (i + vs.length)
  | [], cs, i, h => by simp [setAt]
  | v :: vs, cs, i, h => by
    simp only [List.length_cons] at h
    rw [setAt, setAt_eq vs (cs.set i v) (i + 1) (by simp; omega), List.take_succ_eq_append_getElem (by simp; omega), List.take_set_of_le (Nat.le_refl _), List.drop_set_of_lt (by omega)]
    simp [Nat.add_assoc, Nat.add_comm 1]
theorem setAt_row {X : List Int} {n : Nat} (h : X.length ≤ n) : setAt (List.map u32 (List.replicate n 0)) 0 (List.map u32 X) = List.map u32 (X ++ List.replicate (n - X.length) 0) := by
  rw [setAt_eq _ _ _ (by simpa using h)]
  simp
theorem qr_step {AA : Int} {V U q : List Int} {m c : Nat} (hV : Wf V) (hn : V.length = m + 2) (hU : c + V.length + 1 ≤ U.length) (hq : c < q.length) (hUw : Wf U) (hlt : val (U.drop (c + 1)) < val V) (hv : Hd (val U + 4294967296 ^ (c + 1) * val (q.drop (c + 1)) * val V = AA)) :
    val ((U.drop c).take (m + 3)) < 4294967296 * val V ∧ Wf ((U.drop c).take (m + 3)) ∧ (0 ≤ val ((U.drop c).take (m + 3)) / val V ∧ val ((U.drop c).take (m + 3)) / val V < 4294967296) ∧
      ∀ R : List Int, Wf R → R.length = m + 3 → val R = val ((U.drop c).take (m + 3)) % val V → val ((U.take c ++ R ++ U.drop (c + m + 3)).drop c) < val V ∧
        Hd (val (U.take c ++ R ++ U.drop (c + m + 3)) + 4294967296 ^ c * val ((q.set c (val ((U.drop c).take (m + 3)) / val V)).drop c) * val V = AA) := by
  have hsw : Wf ((U.drop c).take (m + 3)) := (hUw.drop _).take _
  have hVl := val_lt hV
  have e1 : val (U.drop (c + 1)) = val ((U.drop (c + 1)).take V.length) + 4294967296 ^ V.length * val (U.drop (c + 1 + V.length)) := by
    have := val_cut (U.drop (c + 1)) V.length (by rw [List.length_drop]; omega)
    rwa [List.drop_drop] at this
  have hz : val (U.drop (c + 1 + V.length)) = 0 := by
    have h1 := val_nonneg (hUw.drop (c + 1 + V.length))
    have h2 := val_nonneg ((hUw.drop (c + 1)).take V.length)
    rcases Int.lt_or_le 0 (val (U.drop (c + 1 + V.length))) with h3 | h3
    · have : 4294967296 ^ V.length * 1 ≤ 4294967296 ^ V.length * val (U.drop (c + 1 + V.length)) := Int.mul_le_mul_of_nonneg_left h3 (Int.le_of_lt (pow_pos' _))
      omega
    · omega
  rw [show c + 1 + V.length = c + m + 3 by omega] at hz
  have e2 : val (U.drop c) = val ((U.drop c).take (m + 3)) := by
    have h1 := val_cut (U.drop c) (m + 3) (by rw [List.length_drop]; omega)
    rwa [List.drop_drop, ← Nat.add_assoc, hz, Int.mul_zero, Int.add_zero] at h1
  have e3 := val_drop_at (l := U) (i := c) (by omega)
  have hx := hUw.at c
  have hseg : val ((U.drop c).take (m + 3)) < 4294967296 * val V := by rw [← e2, e3]; omega
  have hVpos : 0 < val V := by have := val_nonneg hsw; omega
  refine ⟨hseg, hsw, ⟨Int.ediv_nonneg (val_nonneg hsw) (by omega), Int.ediv_lt_of_lt_mul hVpos hseg⟩, fun R hRw hRl hRv => ?_⟩
  have hR0 := Int.emod_lt_of_pos (val ((U.drop c).take (m + 3))) hVpos
  have hdm := Int.emod_def (val ((U.drop c).take (m + 3))) (val V)
  have e4 := val_cut U c (by omega)
  rw [← e2] at hRv hdm hR0 ⊢
  have htl : (U.take c).length = c := by rw [List.length_take]; omega
  have hdr : val ((U.take c ++ R ++ U.drop (c + m + 3)).drop c) = val R := by
    rw [List.append_assoc, List.drop_append_of_le_length (by omega), List.drop_of_length_le (by omega), List.nil_append, val_append, hz, Int.mul_zero, Int.add_zero]
  have hval : val (U.take c ++ R ++ U.drop (c + m + 3)) = val (U.take c) + 4294967296 ^ c * val R := by
    have := val_cut (U.take c ++ R ++ U.drop (c + m + 3)) c (by simp; omega)
    rw [hdr, List.append_assoc, List.take_append_of_le_length (by omega), List.take_take, Nat.min_self] at this
    rw [List.append_assoc]
    exact this
  refine ⟨by rw [hdr, hRv]; exact hR0, ⟨?_⟩⟩
  have h := hv.out
  rw [hval, hRv, hdm, val_drop_at (l := q.set c (val (U.drop c) / val V)) (by simp; omega), getD_set_self (by omega), drop_set_lt (by omega)]
  rw [e4, pow_snoc] at h
  generalize val (U.drop c) / val V = d at *
  generalize val (U.drop c) = D at *
  generalize val (q.drop (c + 1)) = Q at *
  generalize val (U.take c) = T at *
  generalize val V = v at *
  generalize (4294967296 : Int) ^ c = P at *
  clear hRv hdm hdr hval hlt e1 e2 e3 hz hseg
  grind
theorem s_QuoRem (a b : List Int) (ha : Wf a) (hb : Wf b) (la : a.length ≤ 35184372087900) (lb : b.length ≤ 35184372087900) (hb0 : val b ≠ 0) : Spec Tryz.prog 34 [U a, U b] (.tup [U (N (val a / val b)), U (N (val a % val b))]) := by
  refine spec_of_awp mixed Tryz.func34 rfl Tryz.call34 (by kernel_rfl) (by simp) rfl ?_
  refine T (call_by (s_cut a (by omega)) ?_)
  refine T (call_by (s_cut b (by omega)) ?_)
  have la' := trim_len a
  have lb' := trim_len b
  have ia := Is.of ha rfl
  have ib := Is.of hb rfl
  generalize trim a = x at *
  generalize trim b = y at *
  have hx := ia.wf
  have hy := ib.wf
  have a0 := val_nonneg ha
  have b0 := val_nonneg hb
  refine T (call_by (s_Cmp x y hx hy (by omega) (by omega)) ?_)
  rw [ia.val, ib.val]
  by_cases hlt : val a < val b
  · rw [sgn_lt hlt]
    refine T (call_by (s_Trim x (by omega)) ?_)
    refine T (r_ret ?_)
    refine R ?_
    rw [Int.ediv_eq_zero_of_lt a0 hlt, N_zero, ia.nm, ← ia.toN]
    exact Wk.tup (WkL.cons Wk.nil (WkL.cons (Wk.refl _) (WkL.refl _)))
  have hs : 0 ≤ sgn (val a) (val b) := by unfold sgn; rw [if_neg hlt]; split <;> omega
  have hlen : y.length ≤ x.length := ib.len (Int.lt_of_le_of_lt (show val b ≤ val a by omega) ia.lt)
  have hy0 : y.length ≠ 0 := fun h => hb0 (by rw [← ib.val, List.eq_nil_of_length_eq_zero h]; rfl)
  by_cases h1 : y.length = 1
  · have hw : y.getD 0 0 = val b := by
      match y, h1, ib with
      | [w], _, ib => rw [← ib.val]; simp [val]
    have hw1 := hy.at 0
    refine T (call_by (s_word x (y.getD 0 0) hx (by omega) (by omega) (by omega)) ?_)
    refine T ?_
    refine call_eq (as' := [U [val x % y.getD 0 0]]) rfl (s_cut [val x % y.getD 0 0] (by simp)) ?_
    refine TR ?_
    have hr0 := Int.emod_nonneg (val b) (show (1 : Int) ≠ 0 by decide)
    have hm0 := Int.emod_nonneg (val a) hb0
    have hm1 := Int.emod_lt_of_pos (val a) (show 0 < val b by omega)
    rw [hw, ia.val, trim_N (Wf.one hm0 (by omega)), val_one]
  · obtain ⟨m, hm⟩ : ∃ m, y.length = m + 2 := ⟨y.length - 2, by omega⟩
    have htop1 : 1 ≤ y.getD (m + 1) 0 := by
      obtain ⟨l, w, rfl⟩ := snoc_of_ne (l := y) (by intro h; rw [h] at hy0; simp at hy0)
      have := last_pos ib.nm hy
      simp at hm
      rw [show m + 1 = l.length by omega]
      simpa [List.getD_eq_getElem?_getD] using this
    have hty := hy.at (m + 1)
    obtain ⟨s, hs1, hs2, hs3, hs4⟩ := lz_eq ⟨htop1, hty.2⟩
    have hV := N_is (v := val b * 2 ^ s) (Int.mul_nonneg b0 (Int.le_of_lt (Int.pow_pos (by decide))))
    have hX := N_is (v := val a * 2 ^ s) (Int.mul_nonneg a0 (Int.le_of_lt (Int.pow_pos (by decide))))
    obtain ⟨hVn, htop⟩ := norm_top y (N (val b * 2 ^ s)) m s hs1 hy hm (by rw [ib.val]; exact hV) hs3 hs4
    have hp := pow_bd (s := s) (by omega)
    have hXl : (N (val a * 2 ^ s)).length ≤ x.length + 1 := by
      refine hX.len ?_
      have h1 : val a * 2 ^ s < 4294967296 ^ x.length * 2 ^ s := Int.mul_lt_mul_of_pos_right ia.lt (by omega)
      have h2 : (4294967296 : Int) ^ x.length * 2 ^ s ≤ 4294967296 ^ x.length * 4294967296 := Int.mul_le_mul_of_nonneg_left hp.2 (Int.le_of_lt (pow_pos' _))
      rw [pow_snoc]
      omega
    refine T ?_
    refine call_eq (by rw [show ((y.length : Int) - 1).toNat = m + 1 by omega]) (s_LeadingZeros32 (y.getD (m + 1) 0) hty.1 hty.2) ?_
    rw [hs2]
    refine T (call_by (s_Shl y s hy (by omega) (by omega)) ?_)
    rw [ib.val]
    refine T (call_by (s_Shl x s hx (by omega) (by omega)) ?_)
    rw [ia.val]
    generalize N (val b * 2 ^ s) = V at *
    generalize N (val a * 2 ^ s) = X at *
    refine T ?_
    have hUl : (X ++ List.replicate (x.length + 1 - X.length) (0 : Int)).length = x.length + 1 := by rw [List.length_append, List.length_replicate]; omega
    have hUw : Wf (X ++ List.replicate (x.length + 1 - X.length) (0 : Int)) := hX.wf.append (Wf.zeros _)
    have hUv : val (X ++ List.replicate (x.length + 1 - X.length) (0 : Int)) = val a * 2 ^ s := by rw [val_append, val_zeros, hX.val]; simp
    refine w_loop (α := Nat × List Int × List Int) (fun p => [(.t 8, .sc (.int .i64 s)), (.t 9, U V), (.t 10, .hs 51 1 0 (x.length + 1) 1), (.t 11, .hs 63 1 0 (x.length - y.length + 1) 1), (.t 12, .sc (.int .i64 ((p.1 : Int) - 1))), (.h 51, .blk 1 2 (p.2.1.map u32)), (.h 63, .blk 1 2 (p.2.2.map u32))])
      (fun p => p.1 ≤ x.length - y.length + 1 ∧ p.2.1.length = x.length + 1 ∧ p.2.2.length = x.length - y.length + 1 ∧ Wf p.2.1 ∧ Wf p.2.2 ∧ val (p.2.1.drop p.1) < val V ∧ Hd (val p.2.1 + 4294967296 ^ p.1 * val (p.2.2.drop p.1) * val V = val a * 2 ^ s)) (fun p => p.1)
      (x.length - y.length + 1, X ++ List.replicate (x.length + 1 - X.length) (0 : Int), List.replicate (x.length - y.length + 1) 0) ⟨Nat.le_refl _, hUl, by simp, hUw, Wf.zeros _, ?_, ⟨?_⟩⟩ ?_ ?_
    · generalize X ++ List.replicate (x.length + 1 - X.length) (0 : Int) = U at *
      have e := val_cut U (x.length - y.length + 1) (by omega)
      have h4 := val_nonneg (hUw.take (x.length - y.length + 1))
      have hb := ib.ge (by intro e; rw [e] at hm; simp at hm)
      have h5 : val a * 2 ^ s < 4294967296 ^ x.length * 2 ^ s := Int.mul_lt_mul_of_pos_right ia.lt (by omega)
      have h6 : 4294967296 ^ (y.length - 1) * 2 ^ s ≤ val b * 2 ^ s := Int.mul_le_mul_of_nonneg_right hb (by omega)
      have h7 : 4294967296 ^ (x.length - y.length + 1) * (4294967296 ^ (y.length - 1) * 2 ^ s) ≤ 4294967296 ^ (x.length - y.length + 1) * (val b * 2 ^ s) := Int.mul_le_mul_of_nonneg_left h6 (Int.le_of_lt (pow_pos' _))
      rw [← Int.mul_assoc, ← Int.pow_add, show x.length - y.length + 1 + (y.length - 1) = x.length from by omega] at h7
      rw [hUv] at e
      have h8 : 4294967296 ^ (x.length - y.length + 1) * val (U.drop (x.length - y.length + 1)) < 4294967296 ^ (x.length - y.length + 1) * (val b * 2 ^ s) := by omega
      rw [hV.val]
      exact Int.lt_of_mul_lt_mul_left h8 (Int.le_of_lt (pow_pos' _))
    · rw [List.drop_replicate, val_zeros, hUv]; simp
    · refine H ?_
      refine ⟨by rw [Int.add_sub_cancel], ?_⟩
      rw [setAt_row hXl]
    rintro ⟨c, O, q⟩ r ⟨p1, p2, p3, p4, p5, p6, p7⟩ J hJ
    simp only at p1 p2 p3 p4 p5 p6 p7
    rcases c with _ | c
    · refine T ?_
      refine call_eq (by rw [← p3]) (s_cut q (by omega)) ?_
      refine T ?_
      refine call_eq (by rw [← p2]) (s_Shr O s p4 (by omega) (by omega)) ?_
      refine TR ?_
      have h := p7.out
      rw [List.drop_zero] at p6
      rw [List.drop_zero, Int.pow_zero, Int.one_mul] at h
      have hU0 := val_nonneg p4
      have e1 : val a / val b = val q := by
        rw [← Int.mul_ediv_mul_of_pos_left (val a) (val b) (show (0 : Int) < 2 ^ s by omega), ← hV.val, ← h, Int.add_mul_ediv_right _ _ (by omega), Int.ediv_eq_zero_of_lt hU0 p6, Int.zero_add]
      have e2 : val a % val b = val O / 2 ^ s := by
        have : val a * 2 ^ s % (val b * 2 ^ s) = val O := by rw [← hV.val, ← h, Int.add_mul_emod_self_right, Int.emod_eq_of_lt hU0 p6]
        rw [← this, Int.mul_comm (val a), Int.mul_comm (val b), Int.mul_emod_mul_of_pos _ _ (by omega), Int.mul_ediv_cancel_left _ (by omega)]
      rw [trim_N p5, e1, e2]
    · obtain ⟨k1, k2, k3, k4⟩ := qr_step hV.wf hVn (by omega) (by omega) p4 p6 p7
      have hO3 : O = O.take c ++ (O.drop c).take (m + 3) ++ O.drop (c + m + 3) := by
        rw [List.append_assoc, show c + m + 3 = c + (m + 3) from rfl, ← List.drop_drop, List.take_append_drop, List.take_append_drop]
      have hcl : (O.take c).length = c := by rw [List.length_take]; omega
      have hml : ((O.drop c).take (m + 3)).length = m + 3 := by rw [List.length_take, List.length_drop]; omega
      have dg := s_digit (O.take c) ((O.drop c).take (m + 3)) (O.drop (c + m + 3)) V m k2 hV.wf hVn hml (by rw [hcl, hml, List.length_drop]; omega) htop k1
      have hm0 : 0 ≤ val ((O.drop c).take (m + 3)) % val V := Int.emod_nonneg _ (by have := val_nonneg p4; intro h0; rw [h0, Int.mul_zero] at k1; have := val_nonneg k2; omega)
      have hm1 : val ((O.drop c).take (m + 3)) % val V < val V := Int.emod_lt_of_pos _ (by have := val_nonneg k2; omega)
      have hVl := val_lt hV.wf
      have hpl := pow_le (m := V.length) (n := m + 3) (by omega)
      have k5 := k4 (fixN (m + 3) (val ((O.drop c).take (m + 3)) % val V)) (fixN_wf _ _) (fixN_len _ _) (fixN_val _ _ hm0 (by omega))
      rw [← hO3, hcl] at dg
      refine T ?_
      refine call_l (k := 51) (g := 1) (ys := [.hs 51 1 c (V.length + 1) 1, U V]) (ks := []) Hv (all_u32' _) Hv rfl rfl (by simp only [U, hVn]; rfl) dg ?_
      refine T ?_
      refine hJ _ (c, O.take c ++ fixN (m + 3) (val ((O.drop c).take (m + 3)) % val V) ++ O.drop (c + m + 3), q.set c (val ((O.drop c).take (m + 3)) / val V)) (Nat.lt_succ_self c) ⟨by show c ≤ _; omega, by simp [fixN_len]; omega, by simp [p3], ((p4.take c).append (fixN_wf _ _)).append (p4.drop _), p5.set _ k3.1 k3.2, ?_, ?_⟩ ?_
      · exact k5.1
      · exact k5.2
      · exact Hv
end Go.Ab
end
section
namespace Go.Ab
open Go Go.Proofs Go.Proofs.YtiamjfckgmnijaaGreatDoor.Pl
set_option maxRecDepth 100000
set_option maxHeartbeats 8000000
theorem N_len {u v : Int} (h0 : 0 ≤ u) (h : u ≤ v) : (N u).length ≤ (N v).length := (N_is h0).len (Int.lt_of_le_of_lt h (N_is (Int.le_trans h0 h)).lt)
theorem N_pos {v : Int} (h : 0 < v) : 0 < (N v).length := by
  rcases Nat.eq_zero_or_pos (N v).length with h0 | h0
  · have := (N_is (Int.le_of_lt h)).zero_iff.1 (List.eq_nil_of_length_eq_zero h0)
    omega
  · exact h0
theorem N_trim {v : Int} (h : 0 ≤ v) : trim (N v) = N v := (N_is h).nm
theorem gcd_step {u v : Int} (u0 : 0 ≤ u) (v0 : 0 ≤ v) : Int.gcd v (u % v) = Int.gcd u v := by
  obtain ⟨m, rfl⟩ := Int.eq_ofNat_of_zero_le u0
  obtain ⟨n, rfl⟩ := Int.eq_ofNat_of_zero_le v0
  show Nat.gcd n ((m % n : Nat) : Int).natAbs = Nat.gcd m n
  rw [Int.natAbs_natCast, Nat.gcd_comm n, ← Nat.gcd_rec, Nat.gcd_comm]
theorem s_Gcd (a b : List Int) (ha : Wf a) (hb : Wf b) (la : a.length ≤ 35184372087900) (lb : b.length ≤ 35184372087900) : Spec Tryz.prog 61 [U a, U b] (U (N (Int.gcd (val a) (val b) : Nat))) := by
  refine spec_of_awp mixed Tryz.func61 rfl Tryz.call61 (by kernel_rfl) (by simp) rfl ?_
  refine T (call_by (s_Trim a (by omega)) ?_)
  refine T (call_by (s_Trim b (by omega)) ?_)
  have la' := trim_len a
  have lb' := trim_len b
  rw [trim_N ha] at *
  rw [trim_N hb] at *
  have a0 := val_nonneg ha
  have b0 := val_nonneg hb
  refine T ?_
  refine w_loop (α := Int × Int) (fun p => [(.t 0, U (N p.1)), (.t 1, U (N p.2))]) (fun p => 0 ≤ p.1 ∧ 0 ≤ p.2 ∧ (N p.1).length ≤ 35184372087900 ∧ (N p.2).length ≤ 35184372087900 ∧ Int.gcd p.1 p.2 = Int.gcd (val a) (val b)) (fun p => p.2.toNat) (val a, val b) ⟨a0, b0, by show (N (val a)).length ≤ _; omega, by show (N (val b)).length ≤ _; omega, rfl⟩ ?_ ?_
  · exact Hv
  rintro ⟨u, v⟩ r ⟨u0, v0, lu, lv, hg⟩ J hJ
  simp only at u0 v0 lu lv hg
  rcases Int.lt_or_le 0 v with h | h
  · have hp := N_pos h
    refine T (call_by (s_QuoRem (N u) (N v) (N_wf u) (N_wf v) lu lv (by rw [N_val v0]; omega)) ?_)
    rw [N_val u0, N_val v0]
    have m0 := Int.emod_nonneg u (show v ≠ 0 by omega)
    have m1 := Int.emod_lt_of_pos u h
    refine T ?_
    refine hJ _ (v, u % v) (by show (u % v).toNat < v.toNat; omega) ⟨v0, m0, lv, ?_, ?_⟩ Hv
    · show (N (u % v)).length ≤ _
      have := N_len m0 (Int.le_of_lt m1)
      omega
    · show Int.gcd v (u % v) = _
      rw [← hg, gcd_step u0 v0]
  · have hv : v = 0 := by omega
    subst hv
    rw [N_zero] at lv ⊢
    refine T (call_by (s_Trim (N u) (by omega)) ?_)
    refine TR ?_
    rw [N_trim u0, ← hg]
    simp [Int.natAbs_of_nonneg u0]
end Go.Ab
end
section
namespace Go.Ab
open Go Go.Proofs Go.Proofs.YtiamjfckgmnijaaGreatDoor.Pl
set_option maxRecDepth 100000
set_option maxHeartbeats 8000000
def bitsL (l : List Int) : Int := if l.length = 0 then 0 else 32 * ((l.length : Int) - 1) + (Lib.bitLen (l.getD (l.length - 1) 0).toNat : Int)
theorem s_Bits (a : List Int) (ha : Wf a) (la : a.length ≤ 35184372087900) : Spec Tryz.prog 33 [U a] (.sc (.int .i64 (bitsL (N (val a))))) := by
  refine spec_of_awp mixed Tryz.func33 rfl Tryz.call33 (by kernel_rfl) (by simp) rfl ?_
  refine T (call_by (s_cut a (by omega)) ?_)
  have la' := trim_len a
  rw [trim_N ha] at *
  have hx := N_wf (val a)
  generalize N (val a) = x at *
  by_cases h : x.length = 0
  · refine TR ?_
    rw [bitsL, if_pos h]
  · have ht := hx.at (x.length - 1)
    have hb := Lib.bitLen_le (x.getD (x.length - 1) 0).toNat 32 (by decide) (by omega)
    refine T ?_
    refine call_eq (by rw [show ((x.length : Int) - 1).toNat = x.length - 1 by omega]) (s_Len32 _ ht.1 ht.2) ?_
    refine TR ?_
    rw [bitsL, if_neg h]
end Go.Ab
end
