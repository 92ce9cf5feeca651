import Derived.Test.YtiamjfckgmnijaaGreatDoorFnOb
import Derived.Test.YtiamjfckgmnijaaGreatDoorFnK
set_option linter.all false
section
namespace Go.Ab
open Go Go.Proofs Go.Proofs.YtiamjfckgmnijaaGreatDoor.Pl
set_option maxRecDepth 100000
set_option maxHeartbeats 8000000
theorem n_Shr (a : List Int) (n : Nat) (ha : Wf a) (la : a.length ≤ 35184372088000) (hn : n ≤ 1000000000) (h0 : (trim a).length ≤ n / 32) : Spec Tryz.prog 71 [U a, .sc (.int .i64 n)] (.sc (.slice none 0 0)) := by
  refine spec_of_awp mixed Tryz.func71 rfl Tryz.call71 (by kernel_rfl) (by simp) rfl ?_
  refine T (call_by (s_cut a (by omega)) ?_)
  have la' := trim_len a
  have ix := Is.of ha rfl
  generalize trim a = x at *
  have hx := ix.wf
  have hs : n % 32 < 32 := Nat.mod_lt _ (by decide)
  have hp := pow_bd (s := n % 32) (by omega)
  refine T (r_ret ?_)
  refine R ?_
  exact Wk.refl _
theorem n_QR (a b : List Int) (ha : Wf a) (hb : Wf b) (la : a.length ≤ 35184372087900) (lb : b.length ≤ 35184372087900) (hb0 : val b ≠ 0) (hlt : val a < val b) (h0 : val a = 0) : Spec Tryz.prog 34 [U a, U b] (.tup [.sc (.slice none 0 0), .sc (.slice none 0 0)]) := by
  refine spec_of_awp mixed Tryz.func34 rfl Tryz.call34 (by kernel_rfl) (by simp) rfl ?_
  refine T (call_by (s_cut a (by omega)) ?_)
  refine T (call_by (s_cut b (by omega)) ?_)
  have la' := trim_len a
  have lb' := trim_len b
  have ia := Is.of ha rfl
  have ib := Is.of hb rfl
  generalize trim a = x at *
  generalize trim b = y at *
  have hx := ia.wf
  have hy := ib.wf
  have a0 := val_nonneg ha
  have b0 := val_nonneg hb
  refine T (call_by (s_Cmp x y hx hy (by omega) (by omega)) ?_)
  rw [ia.val, ib.val]
  rw [sgn_lt hlt]
  have et : trim x = [] := by rw [ia.nm, ia.toN, h0, N_zero]
  refine T (call_by (n_Trim x (by omega) et) ?_)
  refine T (r_ret ?_)
  refine R ?_
  exact Wk.refl _
theorem g_QR1 (a b : List Int) (ha : Wf a) (hb : Wf b) (la : a.length ≤ 35184372087900) (lb : b.length ≤ 35184372087900) (hb0 : val b ≠ 0) (hlt : val a < val b) (h0 : val a ≠ 0) : SpecG Tryz.prog 34 [U a, U b] [] (.tup [.sc (.slice none 0 0), .hs 1000000 1 0 (N (val a)).length 1]) [(1, (N (val a)).map u32)] := by
  refine specG_of_awp mixed Tryz.func34 rfl Tryz.call34 (by kernel_rfl) (by simp) rfl rfl (by simp) ?_
  refine T (call_by (s_cut a (by omega)) ?_)
  refine T (call_by (s_cut b (by omega)) ?_)
  have la' := trim_len a
  have lb' := trim_len b
  have ia := Is.of ha rfl
  have ib := Is.of hb rfl
  generalize trim a = x at *
  generalize trim b = y at *
  have hx := ia.wf
  have hy := ib.wf
  have a0 := val_nonneg ha
  have b0 := val_nonneg hb
  refine T (call_by (s_Cmp x y hx hy (by omega) (by omega)) ?_)
  rw [ia.val, ib.val]
  rw [sgn_lt hlt]
  have et : trim x = N (val a) := by rw [ia.nm]; exact ia.toN
  have gt := g_Trim x (by omega) (by rw [et]; intro h; exact h0 (by rw [← N_val a0, h]; rfl))
  rw [et] at gt
  refine T ?_
  refine call_g [] false gt trivial rfl (by simp) (by simp [pOf]) rfl rfl rfl nofun ?_
  refine T (r_retG [(22, 1)] (by simp) ?_ ?_)
  · trivial
  rw [Tryz.results34]
  refine RG ?_
  exact ⟨Nat.le_refl _, Wk.refl _⟩
theorem g_QR2 (a b : List Int) (ha : Wf a) (hb : Wf b) (la : a.length ≤ 35184372087900) (lb : b.length ≤ 35184372087900) (hb0 : val b ≠ 0) (hlt : ¬ val a < val b) (h1 : (trim b).length = 1) : SpecG Tryz.prog 34 [U a, U b] [] (.tup [.hs 1000000 1 0 (N (val a / val b)).length 1, .hs 1000001 1 0 (N (val a % val b)).length 1]) [(1, (N (val a / val b)).map u32), (1, (N (val a % val b)).map u32)] := by
  refine specG_of_awp mixed Tryz.func34 rfl Tryz.call34 (by kernel_rfl) (by simp) rfl rfl (by simp) ?_
  refine T (call_by (s_cut a (by omega)) ?_)
  refine T (call_by (s_cut b (by omega)) ?_)
  have la' := trim_len a
  have lb' := trim_len b
  have ia := Is.of ha rfl
  have ib := Is.of hb rfl
  generalize trim a = x at *
  generalize trim b = y at *
  have hx := ia.wf
  have hy := ib.wf
  have a0 := val_nonneg ha
  have b0 := val_nonneg hb
  refine T (call_by (s_Cmp x y hx hy (by omega) (by omega)) ?_)
  rw [ia.val, ib.val]
  have hs : 0 ≤ sgn (val a) (val b) := by unfold sgn; rw [if_neg hlt]; split <;> omega
  have hlen : y.length ≤ x.length := ib.len (Int.lt_of_le_of_lt (show val b ≤ val a by omega) ia.lt)
  have hy0 : y.length ≠ 0 := fun h => hb0 (by rw [← ib.val, List.eq_nil_of_length_eq_zero h]; rfl)
  have hw : y.getD 0 0 = val b := by
    match y, h1, ib with
    | [w], _, ib => rw [← ib.val]; simp [val]
  have hw1 := hy.at 0
  have hr0 := Int.emod_nonneg (val b) (show (1 : Int) ≠ 0 by decide)
  have hm0 := Int.emod_nonneg (val a) hb0
  have hm1 := Int.emod_lt_of_pos (val a) (show 0 < val b by omega)
  have gw := g_word x (y.getD 0 0) hx (by omega) (by omega) (by omega)
  rw [hw, ia.val] at gw
  have et : trim [val a % val b] = N (val a % val b) := by rw [trim_N (Wf.one hm0 (by omega)), val_one]
  have lt := trim_len [val a % val b]
  have tk := trim_take [val a % val b]
  refine T ?_
  rw [hw]
  refine call_g [] false gw trivial rfl (by simp) (by simp [pOf]) rfl rfl rfl nofun ?_
  refine T ?_
  refine call_cut [val a % val b] 36 1 rfl (by simp) rfl (show hall _ 36 = .blk 1 2 [u32 (val a % val b)] from Hv) ?_
  rw [et] at lt tk ⊢
  refine T (r_retG [(31, 1), (36, 1)] (by simp) ?_ ?_)
  · trivial
  rw [Tryz.results34]
  refine RG ?_
  have tk' := congrArg (List.map u32) tk
  rw [List.map_take] at tk'
  exact ⟨⟨Nat.le_refl _, Nat.le_refl _⟩, Wk.refl _, tk'⟩
theorem g_QR3 (a b : List Int) (ha : Wf a) (hb : Wf b) (la : a.length ≤ 35184372087900) (lb : b.length ≤ 35184372087900) (hb0 : val b ≠ 0) (hlt : ¬ val a < val b) (h1 : (trim b).length ≠ 1) (hr : val a % val b ≠ 0) : SpecG Tryz.prog 34 [U a, U b] [] (.tup [.hs 1000000 1 0 (N (val a / val b)).length 1, .hs 1000001 1 0 (N (val a % val b)).length 1]) [(1, (N (val a / val b)).map u32), (1, (N (val a % val b)).map u32)] := by
  refine specG_of_awp mixed Tryz.func34 rfl Tryz.call34 (by kernel_rfl) (by simp) rfl rfl (by simp) ?_
  refine T (call_by (s_cut a (by omega)) ?_)
  refine T (call_by (s_cut b (by omega)) ?_)
  have la' := trim_len a
  have lb' := trim_len b
  have ia := Is.of ha rfl
  have ib := Is.of hb rfl
  generalize trim a = x at *
  generalize trim b = y at *
  have hx := ia.wf
  have hy := ib.wf
  have a0 := val_nonneg ha
  have b0 := val_nonneg hb
  refine T (call_by (s_Cmp x y hx hy (by omega) (by omega)) ?_)
  rw [ia.val, ib.val]
  have hs : 0 ≤ sgn (val a) (val b) := by unfold sgn; rw [if_neg hlt]; split <;> omega
  have hlen : y.length ≤ x.length := ib.len (Int.lt_of_le_of_lt (show val b ≤ val a by omega) ia.lt)
  have hy0 : y.length ≠ 0 := fun h => hb0 (by rw [← ib.val, List.eq_nil_of_length_eq_zero h]; rfl)
  obtain ⟨m, hm⟩ : ∃ m, y.length = m + 2 := ⟨y.length - 2, by omega⟩
  have htop1 : 1 ≤ y.getD (m + 1) 0 := by
    obtain ⟨l, w, rfl⟩ := snoc_of_ne (l := y) (by intro h; rw [h] at hy0; simp at hy0)
    have := last_pos ib.nm hy
    simp at hm
    rw [show m + 1 = l.length by omega]
    simpa [List.getD_eq_getElem?_getD] using this
  have hty := hy.at (m + 1)
  obtain ⟨s, hs1, hs2, hs3, hs4⟩ := lz_eq ⟨htop1, hty.2⟩
  have hV := N_is (v := val b * 2 ^ s) (Int.mul_nonneg b0 (Int.le_of_lt (Int.pow_pos (by decide))))
  have hX := N_is (v := val a * 2 ^ s) (Int.mul_nonneg a0 (Int.le_of_lt (Int.pow_pos (by decide))))
  obtain ⟨hVn, htop⟩ := norm_top y (N (val b * 2 ^ s)) m s hs1 hy hm (by rw [ib.val]; exact hV) hs3 hs4
  have hp := pow_bd (s := s) (by omega)
  have hXl : (N (val a * 2 ^ s)).length ≤ x.length + 1 := by
    refine hX.len ?_
    have h1 : val a * 2 ^ s < 4294967296 ^ x.length * 2 ^ s := Int.mul_lt_mul_of_pos_right ia.lt (by omega)
    have h2 : (4294967296 : Int) ^ x.length * 2 ^ s ≤ 4294967296 ^ x.length * 4294967296 := Int.mul_le_mul_of_nonneg_left hp.2 (Int.le_of_lt (pow_pos' _))
    rw [pow_snoc]
    omega
  refine T ?_
  refine call_eq (by rw [show ((y.length : Int) - 1).toNat = m + 1 by omega]) (s_LeadingZeros32 (y.getD (m + 1) 0) hty.1 hty.2) ?_
  rw [hs2]
  refine T (call_by (s_Shl y s hy (by omega) (by omega)) ?_)
  rw [ib.val]
  refine T (call_by (s_Shl x s hx (by omega) (by omega)) ?_)
  rw [ia.val]
  generalize N (val b * 2 ^ s) = V at *
  generalize N (val a * 2 ^ s) = X at *
  refine T ?_
  have hUl : (X ++ List.replicate (x.length + 1 - X.length) (0 : Int)).length = x.length + 1 := by rw [List.length_append, List.length_replicate]; omega
  have hUw : Wf (X ++ List.replicate (x.length + 1 - X.length) (0 : Int)) := hX.wf.append (Wf.zeros _)
  have hUv : val (X ++ List.replicate (x.length + 1 - X.length) (0 : Int)) = val a * 2 ^ s := by rw [val_append, val_zeros, hX.val]; simp
  refine w_loop (α := Nat × List Int × List Int) (fun p => [(.t 8, .sc (.int .i64 s)), (.t 9, U V), (.t 10, .hs 51 1 0 (x.length + 1) 1), (.t 11, .hs 63 1 0 (x.length - y.length + 1) 1), (.t 12, .sc (.int .i64 ((p.1 : Int) - 1))), (.h 51, .blk 1 2 (p.2.1.map u32)), (.h 63, .blk 1 2 (p.2.2.map u32)), (.h 88, .blk 0 0 [])])
    (fun p => p.1 ≤ x.length - y.length + 1 ∧ p.2.1.length = x.length + 1 ∧ p.2.2.length = x.length - y.length + 1 ∧ Wf p.2.1 ∧ Wf p.2.2 ∧ val (p.2.1.drop p.1) < val V ∧ Hd (val p.2.1 + 4294967296 ^ p.1 * val (p.2.2.drop p.1) * val V = val a * 2 ^ s)) (fun p => p.1)
    (x.length - y.length + 1, X ++ List.replicate (x.length + 1 - X.length) (0 : Int), List.replicate (x.length - y.length + 1) 0) ⟨Nat.le_refl _, hUl, by simp, hUw, Wf.zeros _, ?_, ⟨?_⟩⟩ ?_ ?_
  · generalize X ++ List.replicate (x.length + 1 - X.length) (0 : Int) = U at *
    have e := val_cut U (x.length - y.length + 1) (by omega)
    have h4 := val_nonneg (hUw.take (x.length - y.length + 1))
    have hb := ib.ge (by intro e; rw [e] at hm; simp at hm)
    have h5 : val a * 2 ^ s < 4294967296 ^ x.length * 2 ^ s := Int.mul_lt_mul_of_pos_right ia.lt (by omega)
    have h6 : 4294967296 ^ (y.length - 1) * 2 ^ s ≤ val b * 2 ^ s := Int.mul_le_mul_of_nonneg_right hb (by omega)
    have h7 : 4294967296 ^ (x.length - y.length + 1) * (4294967296 ^ (y.length - 1) * 2 ^ s) ≤ 4294967296 ^ (x.length - y.length + 1) * (val b * 2 ^ s) := Int.mul_le_mul_of_nonneg_left h6 (Int.le_of_lt (pow_pos' _))
    rw [← Int.mul_assoc, ← Int.pow_add, show x.length - y.length + 1 + (y.length - 1) = x.length from by omega] at h7
    rw [hUv] at e
    have h8 : 4294967296 ^ (x.length - y.length + 1) * val (U.drop (x.length - y.length + 1)) < 4294967296 ^ (x.length - y.length + 1) * (val b * 2 ^ s) := by omega
    rw [hV.val]
    exact Int.lt_of_mul_lt_mul_left h8 (Int.le_of_lt (pow_pos' _))
  · rw [List.drop_replicate, val_zeros, hUv]; simp
  · refine H ?_
    refine ⟨by rw [Int.add_sub_cancel], ?_⟩
    rw [setAt_row hXl]
  rintro ⟨c, O, q⟩ r ⟨p1, p2, p3, p4, p5, p6, p7⟩ J hJ
  simp only at p1 p2 p3 p4 p5 p6 p7
  rcases c with _ | c
  · have h := p7.out
    rw [List.drop_zero] at p6
    rw [List.drop_zero, Int.pow_zero, Int.one_mul] at h
    have hU0 := val_nonneg p4
    have e1 : val a / val b = val q := by
      rw [← Int.mul_ediv_mul_of_pos_left (val a) (val b) (show (0 : Int) < 2 ^ s by omega), ← hV.val, ← h, Int.add_mul_ediv_right _ _ (by omega), Int.ediv_eq_zero_of_lt hU0 p6, Int.zero_add]
    have e3 : val O = 2 ^ s * (val a % val b) := by
      have : val a * 2 ^ s % (val b * 2 ^ s) = val O := by rw [← hV.val, ← h, Int.add_mul_emod_self_right, Int.emod_eq_of_lt hU0 p6]
      rw [← this, Int.mul_comm (val a), Int.mul_comm (val b), Int.mul_emod_mul_of_pos _ _ (by omega)]
    have e2 : val O / 2 ^ s = val a % val b := by rw [e3, Int.mul_ediv_cancel_left _ (by omega)]
    have et : trim q = N (val a / val b) := by rw [trim_N p5, e1]
    have lt := trim_len q
    have tk := trim_take q
    have s0 : s / 32 = 0 := by omega
    have gs := g_Shr O s p4 (by omega) (by omega) (by
      rw [s0, trim_N p4]
      have h0 : val O ≠ 0 := fun h => hr (by rw [← e2, h, Int.zero_ediv])
      exact N_pos (by omega))
    rw [e2] at gs
    refine T ?_
    refine call_cut q 63 1 rfl (by omega) p3.symm Hv ?_
    rw [et] at lt tk ⊢
    refine T ?_
    refine call_g [] false gs trivial (frzGL_row (g := 1) (st := 2) O [] (by rw [List.append_nil]; exact Hv) (by decide) p2.symm (frzGL_sc rfl)) (by simp) (by simp [pOf]) rfl rfl rfl nofun ?_
    refine T (r_retG [(63, 1), (88, 1)] (by simp) ?_ ?_)
    · trivial
    rw [Tryz.results34]
    refine RG ?_
    exact ⟨⟨Nat.le_refl _, Nat.le_refl _⟩, Wk.refl _, by rw [tk]⟩
  · obtain ⟨k1, k2, k3, k4⟩ := qr_step hV.wf hVn (by omega) (by omega) p4 p6 p7
    have hO3 : O = O.take c ++ (O.drop c).take (m + 3) ++ O.drop (c + m + 3) := by
      rw [List.append_assoc, show c + m + 3 = c + (m + 3) from rfl, ← List.drop_drop, List.take_append_drop, List.take_append_drop]
    have hcl : (O.take c).length = c := by rw [List.length_take]; omega
    have hml : ((O.drop c).take (m + 3)).length = m + 3 := by rw [List.length_take, List.length_drop]; omega
    have dg := s_digit (O.take c) ((O.drop c).take (m + 3)) (O.drop (c + m + 3)) V m k2 hV.wf hVn hml (by rw [hcl, hml, List.length_drop]; omega) htop k1
    have hm0 : 0 ≤ val ((O.drop c).take (m + 3)) % val V := Int.emod_nonneg _ (by have := val_nonneg p4; intro h0; rw [h0, Int.mul_zero] at k1; have := val_nonneg k2; omega)
    have hm1 : val ((O.drop c).take (m + 3)) % val V < val V := Int.emod_lt_of_pos _ (by have := val_nonneg k2; omega)
    have hVl := val_lt hV.wf
    have hpl := pow_le (m := V.length) (n := m + 3) (by omega)
    have k5 := k4 (fixN (m + 3) (val ((O.drop c).take (m + 3)) % val V)) (fixN_wf _ _) (fixN_len _ _) (fixN_val _ _ hm0 (by omega))
    rw [← hO3, hcl] at dg
    refine T ?_
    refine call_l (k := 51) (g := 1) (ys := [.hs 51 1 c (V.length + 1) 1, U V]) (ks := []) Hv (all_u32' _) Hv rfl rfl (by simp only [U, hVn]; rfl) dg ?_
    refine T ?_
    refine hJ _ (c, O.take c ++ fixN (m + 3) (val ((O.drop c).take (m + 3)) % val V) ++ O.drop (c + m + 3), q.set c (val ((O.drop c).take (m + 3)) / val V)) (Nat.lt_succ_self c) ⟨by show c ≤ _; omega, by simp [fixN_len]; omega, by simp [p3], ((p4.take c).append (fixN_wf _ _)).append (p4.drop _), p5.set _ k3.1 k3.2, ?_, ?_⟩ ?_
    · exact k5.1
    · exact k5.2
    · exact Hv
theorem g_QR4 (a b : List Int) (ha : Wf a) (hb : Wf b) (la : a.length ≤ 35184372087900) (lb : b.length ≤ 35184372087900) (hb0 : val b ≠ 0) (hlt : ¬ val a < val b) (h1 : (trim b).length ≠ 1) (hr : val a % val b = 0) : SpecG Tryz.prog 34 [U a, U b] [] (.tup [.hs 1000000 1 0 (N (val a / val b)).length 1, .sc (.slice none 0 0)]) [(1, (N (val a / val b)).map u32)] := by
  refine specG_of_awp mixed Tryz.func34 rfl Tryz.call34 (by kernel_rfl) (by simp) rfl rfl (by simp) ?_
  refine T (call_by (s_cut a (by omega)) ?_)
  refine T (call_by (s_cut b (by omega)) ?_)
  have la' := trim_len a
  have lb' := trim_len b
  have ia := Is.of ha rfl
  have ib := Is.of hb rfl
  generalize trim a = x at *
  generalize trim b = y at *
  have hx := ia.wf
  have hy := ib.wf
  have a0 := val_nonneg ha
  have b0 := val_nonneg hb
  refine T (call_by (s_Cmp x y hx hy (by omega) (by omega)) ?_)
  rw [ia.val, ib.val]
  have hs : 0 ≤ sgn (val a) (val b) := by unfold sgn; rw [if_neg hlt]; split <;> omega
  have hlen : y.length ≤ x.length := ib.len (Int.lt_of_le_of_lt (show val b ≤ val a by omega) ia.lt)
  have hy0 : y.length ≠ 0 := fun h => hb0 (by rw [← ib.val, List.eq_nil_of_length_eq_zero h]; rfl)
  obtain ⟨m, hm⟩ : ∃ m, y.length = m + 2 := ⟨y.length - 2, by omega⟩
  have htop1 : 1 ≤ y.getD (m + 1) 0 := by
    obtain ⟨l, w, rfl⟩ := snoc_of_ne (l := y) (by intro h; rw [h] at hy0; simp at hy0)
    have := last_pos ib.nm hy
    simp at hm
    rw [show m + 1 = l.length by omega]
    simpa [List.getD_eq_getElem?_getD] using this
  have hty := hy.at (m + 1)
  obtain ⟨s, hs1, hs2, hs3, hs4⟩ := lz_eq ⟨htop1, hty.2⟩
  have hV := N_is (v := val b * 2 ^ s) (Int.mul_nonneg b0 (Int.le_of_lt (Int.pow_pos (by decide))))
  have hX := N_is (v := val a * 2 ^ s) (Int.mul_nonneg a0 (Int.le_of_lt (Int.pow_pos (by decide))))
  obtain ⟨hVn, htop⟩ := norm_top y (N (val b * 2 ^ s)) m s hs1 hy hm (by rw [ib.val]; exact hV) hs3 hs4
  have hp := pow_bd (s := s) (by omega)
  have hXl : (N (val a * 2 ^ s)).length ≤ x.length + 1 := by
    refine hX.len ?_
    have h1 : val a * 2 ^ s < 4294967296 ^ x.length * 2 ^ s := Int.mul_lt_mul_of_pos_right ia.lt (by omega)
    have h2 : (4294967296 : Int) ^ x.length * 2 ^ s ≤ 4294967296 ^ x.length * 4294967296 := Int.mul_le_mul_of_nonneg_left hp.2 (Int.le_of_lt (pow_pos' _))
    rw [pow_snoc]
    omega
  refine T ?_
  refine call_eq (by rw [show ((y.length : Int) - 1).toNat = m + 1 by omega]) (s_LeadingZeros32 (y.getD (m + 1) 0) hty.1 hty.2) ?_
  rw [hs2]
  refine T (call_by (s_Shl y s hy (by omega) (by omega)) ?_)
  rw [ib.val]
  refine T (call_by (s_Shl x s hx (by omega) (by omega)) ?_)
  rw [ia.val]
  generalize N (val b * 2 ^ s) = V at *
  generalize N (val a * 2 ^ s) = X at *
  refine T ?_
  have hUl : (X ++ List.replicate (x.length + 1 - X.length) (0 : Int)).length = x.length + 1 := by rw [List.length_append, List.length_replicate]; omega
  have hUw : Wf (X ++ List.replicate (x.length + 1 - X.length) (0 : Int)) := hX.wf.append (Wf.zeros _)
  have hUv : val (X ++ List.replicate (x.length + 1 - X.length) (0 : Int)) = val a * 2 ^ s := by rw [val_append, val_zeros, hX.val]; simp
  refine w_loop (α := Nat × List Int × List Int) (fun p => [(.t 8, .sc (.int .i64 s)), (.t 9, U V), (.t 10, .hs 51 1 0 (x.length + 1) 1), (.t 11, .hs 63 1 0 (x.length - y.length + 1) 1), (.t 12, .sc (.int .i64 ((p.1 : Int) - 1))), (.h 51, .blk 1 2 (p.2.1.map u32)), (.h 63, .blk 1 2 (p.2.2.map u32)), (.h 88, .blk 0 0 [])])
    (fun p => p.1 ≤ x.length - y.length + 1 ∧ p.2.1.length = x.length + 1 ∧ p.2.2.length = x.length - y.length + 1 ∧ Wf p.2.1 ∧ Wf p.2.2 ∧ val (p.2.1.drop p.1) < val V ∧ Hd (val p.2.1 + 4294967296 ^ p.1 * val (p.2.2.drop p.1) * val V = val a * 2 ^ s)) (fun p => p.1)
    (x.length - y.length + 1, X ++ List.replicate (x.length + 1 - X.length) (0 : Int), List.replicate (x.length - y.length + 1) 0) ⟨Nat.le_refl _, hUl, by simp, hUw, Wf.zeros _, ?_, ⟨?_⟩⟩ ?_ ?_
  · generalize X ++ List.replicate (x.length + 1 - X.length) (0 : Int) = U at *
    have e := val_cut U (x.length - y.length + 1) (by omega)
    have h4 := val_nonneg (hUw.take (x.length - y.length + 1))
    have hb := ib.ge (by intro e; rw [e] at hm; simp at hm)
    have h5 : val a * 2 ^ s < 4294967296 ^ x.length * 2 ^ s := Int.mul_lt_mul_of_pos_right ia.lt (by omega)
    have h6 : 4294967296 ^ (y.length - 1) * 2 ^ s ≤ val b * 2 ^ s := Int.mul_le_mul_of_nonneg_right hb (by omega)
    have h7 : 4294967296 ^ (x.length - y.length + 1) * (4294967296 ^ (y.length - 1) * 2 ^ s) ≤ 4294967296 ^ (x.length - y.length + 1) * (val b * 2 ^ s) := Int.mul_le_mul_of_nonneg_left h6 (Int.le_of_lt (pow_pos' _))
    rw [← Int.mul_assoc, ← Int.pow_add, show x.length - y.length + 1 + (y.length - 1) = x.length from by omega] at h7
    rw [hUv] at e
    have h8 : 4294967296 ^ (x.length - y.length + 1) * val (U.drop (x.length - y.length + 1)) < 4294967296 ^ (x.length - y.length + 1) * (val b * 2 ^ s) := by omega
    rw [hV.val]
    exact Int.lt_of_mul_lt_mul_left h8 (Int.le_of_lt (pow_pos' _))
  · rw [List.drop_replicate, val_zeros, hUv]; simp
  · refine H ?_
    refine ⟨by rw [Int.add_sub_cancel], ?_⟩
    rw [setAt_row hXl]
  rintro ⟨c, O, q⟩ r ⟨p1, p2, p3, p4, p5, p6, p7⟩ J hJ
  simp only at p1 p2 p3 p4 p5 p6 p7
  rcases c with _ | c
  · have h := p7.out
    rw [List.drop_zero] at p6
    rw [List.drop_zero, Int.pow_zero, Int.one_mul] at h
    have hU0 := val_nonneg p4
    have e1 : val a / val b = val q := by
      rw [← Int.mul_ediv_mul_of_pos_left (val a) (val b) (show (0 : Int) < 2 ^ s by omega), ← hV.val, ← h, Int.add_mul_ediv_right _ _ (by omega), Int.ediv_eq_zero_of_lt hU0 p6, Int.zero_add]
    have e3 : val O = 2 ^ s * (val a % val b) := by
      have : val a * 2 ^ s % (val b * 2 ^ s) = val O := by rw [← hV.val, ← h, Int.add_mul_emod_self_right, Int.emod_eq_of_lt hU0 p6]
      rw [← this, Int.mul_comm (val a), Int.mul_comm (val b), Int.mul_emod_mul_of_pos _ _ (by omega)]
    have e2 : val O / 2 ^ s = val a % val b := by rw [e3, Int.mul_ediv_cancel_left _ (by omega)]
    have et : trim q = N (val a / val b) := by rw [trim_N p5, e1]
    have lt := trim_len q
    have tk := trim_take q
    have s0 : s / 32 = 0 := by omega
    have gs := n_Shr O s p4 (by omega) (by omega) (by rw [s0, trim_N p4, e3, hr, Int.mul_zero, N_zero]; exact Nat.le_refl _)
    refine T ?_
    refine call_cut q 63 1 rfl (by omega) p3.symm Hv ?_
    rw [et] at lt tk ⊢
    refine T ?_
    refine call_eq (by rw [← p2]) gs ?_
    refine T (r_retG [(63, 1)] (by simp) ?_ ?_)
    · trivial
    rw [Tryz.results34]
    refine RG ?_
    exact ⟨Nat.le_refl _, Wk.refl _, by rw [tk]⟩
  · obtain ⟨k1, k2, k3, k4⟩ := qr_step hV.wf hVn (by omega) (by omega) p4 p6 p7
    have hO3 : O = O.take c ++ (O.drop c).take (m + 3) ++ O.drop (c + m + 3) := by
      rw [List.append_assoc, show c + m + 3 = c + (m + 3) from rfl, ← List.drop_drop, List.take_append_drop, List.take_append_drop]
    have hcl : (O.take c).length = c := by rw [List.length_take]; omega
    have hml : ((O.drop c).take (m + 3)).length = m + 3 := by rw [List.length_take, List.length_drop]; omega
    have dg := s_digit (O.take c) ((O.drop c).take (m + 3)) (O.drop (c + m + 3)) V m k2 hV.wf hVn hml (by rw [hcl, hml, List.length_drop]; omega) htop k1
    have hm0 : 0 ≤ val ((O.drop c).take (m + 3)) % val V := Int.emod_nonneg _ (by have := val_nonneg p4; intro h0; rw [h0, Int.mul_zero] at k1; have := val_nonneg k2; omega)
    have hm1 : val ((O.drop c).take (m + 3)) % val V < val V := Int.emod_lt_of_pos _ (by have := val_nonneg k2; omega)
    have hVl := val_lt hV.wf
    have hpl := pow_le (m := V.length) (n := m + 3) (by omega)
    have k5 := k4 (fixN (m + 3) (val ((O.drop c).take (m + 3)) % val V)) (fixN_wf _ _) (fixN_len _ _) (fixN_val _ _ hm0 (by omega))
    rw [← hO3, hcl] at dg
    refine T ?_
    refine call_l (k := 51) (g := 1) (ys := [.hs 51 1 c (V.length + 1) 1, U V]) (ks := []) Hv (all_u32' _) Hv rfl rfl (by simp only [U, hVn]; rfl) dg ?_
    refine T ?_
    refine hJ _ (c, O.take c ++ fixN (m + 3) (val ((O.drop c).take (m + 3)) % val V) ++ O.drop (c + m + 3), q.set c (val ((O.drop c).take (m + 3)) / val V)) (Nat.lt_succ_self c) ⟨by show c ≤ _; omega, by simp [fixN_len]; omega, by simp [p3], ((p4.take c).append (fixN_wf _ _)).append (p4.drop _), p5.set _ k3.1 k3.2, ?_, ?_⟩ ?_
    · exact k5.1
    · exact k5.2
    · exact Hv
end Go.Ab
end
