import Derived.Test.YtgffficaoioljaaRa8
import Derived.Test.YtgffficaoioljaaRa1
import Derived.Lib.ItoaNum
set_option linter.all false
section
namespace Go.Ab
open Go Go.Proofs Go.Proofs.Ytgffficaoioljaa.Pl
set_option maxRecDepth 100000
set_option maxHeartbeats 8000000
theorem call_l {P : Program} {B : Nat} {ops : Array Oper} {K : S → Prop} {rest : List Oper} {s : S} {d : Option Tmp} {f : FuncId} {raw ys zs : List AV} {ks : List Nat} {x : Option (List AV × List Nat)} {k g G : Nat} {cs L' : List AV} {r : AV} (h0 : hall s k = .blk g 2 cs) (h1 : cs.all AV.fz = true) (h2 : frzHL (hall s) k raw = some (ys, ks)) (h3 : ks.contains k = false) (h4 : AV.keepL k g ys = true)
    (h5 : AV.toL KA 1 ys = zs) (h6 : SpecH P f zs cs r G L') (hK : AOps0 P B ops K rest (put (appH s ((ks.map fun k => (k, fzn (s (.h k)))) ++ [(k, .blk (g + (G - 1)) 2 L')])) d (r.to k (g + (G - 1))))) : ACall P B ops K rest s d f raw x := call_h h0 h1 h2 h3 h4 h5 h6 hK
theorem lz_eq {x : Int} (h : 1 ≤ x ∧ x < 4294967296) : ∃ s : Nat, s < 32 ∧ (32 : Int) - (Lib.bitLen x.toNat : Int) = (s : Int) ∧ 2147483648 ≤ x * 2 ^ s ∧ x * 2 ^ s < 4294967296 := by
  obtain ⟨n, rfl⟩ := Int.eq_ofNat_of_zero_le (show 0 ≤ x by omega)
  have hn : n ≠ 0 := by omega
  obtain ⟨h1, h2, h3⟩ := Lib.bitLenAux_bounds 64 n (by omega) hn
  have h4 := Lib.bitLen_le n 32 (by decide) (by omega)
  rw [Int.toNat_natCast]
  have e : Lib.bitLen n = Lib.bitLenAux 64 n := rfl
  rw [← e] at h1 h2 h3
  refine ⟨32 - Lib.bitLen n, by omega, by omega, ?_, ?_⟩
  · have : 2 ^ (Lib.bitLen n - 1) * 2 ^ (32 - Lib.bitLen n) ≤ n * 2 ^ (32 - Lib.bitLen n) := Nat.mul_le_mul_right _ h2
    rw [← Nat.pow_add, show Lib.bitLen n - 1 + (32 - Lib.bitLen n) = 31 from by omega] at this
    have h5 : ((2 ^ 31 : Nat) : Int) ≤ ((n * 2 ^ (32 - Lib.bitLen n) : Nat) : Int) := Int.ofNat_le.2 this
    simpa using h5
  · have : n * 2 ^ (32 - Lib.bitLen n) < 2 ^ Lib.bitLen n * 2 ^ (32 - Lib.bitLen n) := Nat.mul_lt_mul_of_pos_right h3 (Nat.pow_pos (by decide))
    rw [← Nat.pow_add, show Lib.bitLen n + (32 - Lib.bitLen n) = 32 from by omega] at this
    have h5 : ((n * 2 ^ (32 - Lib.bitLen n) : Nat) : Int) < ((2 ^ 32 : Nat) : Int) := Int.ofNat_lt.2 this
    simpa using h5
theorem setAt_eq : ∀ (vs cs : List AV) (i : Nat), i + vs.length ≤ cs.length → setAt cs i vs = cs.take i ++ vs ++ cs.drop (i + vs.length)
  | [], cs, i, h => by simp [setAt]
  | v :: vs, cs, i, h => by
    simp only [List.length_cons] at h
    rw [setAt, setAt_eq vs (cs.set i v) (i + 1) (by simp; omega), List.take_succ_eq_append_getElem (by simp; omega), List.take_set_of_le (Nat.le_refl _), List.drop_set_of_lt (by omega)]
    simp [Nat.add_assoc, Nat.add_comm 1]
theorem setAt_row {X : List Int} {n : Nat} (h : X.length ≤ n) : setAt (List.map u32 (List.replicate n 0)) 0 (List.map u32 X) = List.map u32 (X ++ List.replicate (n - X.length) 0) := by
  rw [setAt_eq _ _ _ (by simpa using h)]
  simp
theorem qr_step {AA : Int} {V U q : List Int} {m c : Nat} (hV : Wf V) (hn : V.length = m + 2) (hU : c + V.length + 1 ≤ U.length) (hq : c < q.length) (hUw : Wf U) (hlt : val (U.drop (c + 1)) < val V) (hv : Hd (val U + 4294967296 ^ (c + 1) * val (q.drop (c + 1)) * val V = AA)) :
    val ((U.drop c).take (m + 3)) < 4294967296 * val V ∧ Wf ((U.drop c).take (m + 3)) ∧ (0 ≤ val ((U.drop c).take (m + 3)) / val V ∧ val ((U.drop c).take (m + 3)) / val V < 4294967296) ∧
      ∀ R : List Int, Wf R → R.length = m + 3 → val R = val ((U.drop c).take (m + 3)) % val V → val ((U.take c ++ R ++ U.drop (c + m + 3)).drop c) < val V ∧
        Hd (val (U.take c ++ R ++ U.drop (c + m + 3)) + 4294967296 ^ c * val ((q.set c (val ((U.drop c).take (m + 3)) / val V)).drop c) * val V = AA) := by
  have hsw : Wf ((U.drop c).take (m + 3)) := (hUw.drop _).take _
  have hVl := val_lt hV
  have e1 : val (U.drop (c + 1)) = val ((U.drop (c + 1)).take V.length) + 4294967296 ^ V.length * val (U.drop (c + 1 + V.length)) := by
    have := val_cut (U.drop (c + 1)) V.length (by rw [List.length_drop]; omega)
    rwa [List.drop_drop] at this
  have hz : val (U.drop (c + 1 + V.length)) = 0 := by
    have h1 := val_nonneg (hUw.drop (c + 1 + V.length))
    have h2 := val_nonneg ((hUw.drop (c + 1)).take V.length)
    rcases Int.lt_or_le 0 (val (U.drop (c + 1 + V.length))) with h3 | h3
    · have : 4294967296 ^ V.length * 1 ≤ 4294967296 ^ V.length * val (U.drop (c + 1 + V.length)) := Int.mul_le_mul_of_nonneg_left h3 (Int.le_of_lt (pow_pos' _))
      omega
    · omega
  rw [show c + 1 + V.length = c + m + 3 by omega] at hz
  have e2 : val (U.drop c) = val ((U.drop c).take (m + 3)) := by
    have h1 := val_cut (U.drop c) (m + 3) (by rw [List.length_drop]; omega)
    rwa [List.drop_drop, ← Nat.add_assoc, hz, Int.mul_zero, Int.add_zero] at h1
  have e3 := val_drop_at (l := U) (i := c) (by omega)
  have hx := hUw.at c
  have hseg : val ((U.drop c).take (m + 3)) < 4294967296 * val V := by rw [← e2, e3]; omega
  have hVpos : 0 < val V := by have := val_nonneg hsw; omega
  refine ⟨hseg, hsw, ⟨Int.ediv_nonneg (val_nonneg hsw) (by omega), Int.ediv_lt_of_lt_mul hVpos hseg⟩, fun R hRw hRl hRv => ?_⟩
  have hR0 := Int.emod_lt_of_pos (val ((U.drop c).take (m + 3))) hVpos
  have hdm := Int.emod_def (val ((U.drop c).take (m + 3))) (val V)
  have e4 := val_cut U c (by omega)
  rw [← e2] at hRv hdm hR0 ⊢
  have htl : (U.take c).length = c := by rw [List.length_take]; omega
  have hdr : val ((U.take c ++ R ++ U.drop (c + m + 3)).drop c) = val R := by
    rw [List.append_assoc, List.drop_append_of_le_length (by omega), List.drop_of_length_le (by omega), List.nil_append, val_append, hz, Int.mul_zero, Int.add_zero]
  have hval : val (U.take c ++ R ++ U.drop (c + m + 3)) = val (U.take c) + 4294967296 ^ c * val R := by
    have := val_cut (U.take c ++ R ++ U.drop (c + m + 3)) c (by simp; omega)
    rw [hdr, List.append_assoc, List.take_append_of_le_length (by omega), List.take_take, Nat.min_self] at this
    rw [List.append_assoc]
    exact this
  refine ⟨by rw [hdr, hRv]; exact hR0, ⟨?_⟩⟩
  have h := hv.out
  rw [hval, hRv, hdm, val_drop_at (l := q.set c (val (U.drop c) / val V)) (by simp; omega), getD_set_self (by omega), drop_set_lt (by omega)]
  rw [e4, pow_snoc] at h
  generalize val (U.drop c) / val V = d at *
  generalize val (U.drop c) = D at *
  generalize val (q.drop (c + 1)) = Q at *
  generalize val (U.take c) = T at *
  generalize val V = v at *
  generalize (4294967296 : Int) ^ c = P at *
  clear hRv hdm hdr hval hlt e1 e2 e3 hz hseg
  grind
theorem s_QuoRem (a b : List Int) (ha : Wf a) (hb : Wf b) (la : a.length ≤ 900000000) (lb : b.length ≤ 900000000) (hb0 : val b ≠ 0) : Spec Try.prog 83 [U a, U b] (.tup [U (N (val a / val b)), U (N (val a % val b))]) := by
  refine spec_of_awp mixed Try.func83 rfl Try.call83 (by kernel_rfl) (by simp) rfl ?_
  refine T (call_by (s_cut a (by omega)) ?_)
  refine T (call_by (s_cut b (by omega)) ?_)
  have la' := trim_len a
  have lb' := trim_len b
  have ia := Is.of ha rfl
  have ib := Is.of hb rfl
  generalize trim a = x at *
  generalize trim b = y at *
  have hx := ia.wf
  have hy := ib.wf
  have a0 := val_nonneg ha
  have b0 := val_nonneg hb
  refine T (call_by (s_Cmp x y hx hy (by omega) (by omega)) ?_)
  rw [ia.val, ib.val]
  by_cases hlt : val a < val b
  · rw [sgn_lt hlt]
    refine T (call_by (s_Trim x (by omega)) ?_)
    refine T (r_ret ?_)
    refine R ?_
    rw [Int.ediv_eq_zero_of_lt a0 hlt, N_zero, ia.nm, ← ia.toN]
    exact Wk.tup (WkL.cons Wk.nil (WkL.cons (Wk.refl _) (WkL.refl _)))
  have hs : 0 ≤ sgn (val a) (val b) := by unfold sgn; rw [if_neg hlt]; split <;> omega
  have hlen : y.length ≤ x.length := ib.len (Int.lt_of_le_of_lt (show val b ≤ val a by omega) ia.lt)
  have hy0 : y.length ≠ 0 := fun h => hb0 (by rw [← ib.val, List.eq_nil_of_length_eq_zero h]; rfl)
  by_cases h1 : y.length = 1
  · have hw : y.getD 0 0 = val b := by
      match y, h1, ib with
      | [w], _, ib => rw [← ib.val]; simp [val]
    have hw1 := hy.at 0
    refine T (call_by (s_word x (y.getD 0 0) hx (by omega) (by omega) (by omega)) ?_)
    refine T ?_
    refine call_eq (as' := [U [val x % y.getD 0 0]]) rfl (s_cut [val x % y.getD 0 0] (by simp)) ?_
    refine TR ?_
    have hr0 := Int.emod_nonneg (val b) (show (1 : Int) ≠ 0 by decide)
    have hm0 := Int.emod_nonneg (val a) hb0
    have hm1 := Int.emod_lt_of_pos (val a) (show 0 < val b by omega)
    rw [hw, ia.val, trim_N (Wf.one hm0 (by omega)), val_one]
  · obtain ⟨m, hm⟩ : ∃ m, y.length = m + 2 := ⟨y.length - 2, by omega⟩
    have htop1 : 1 ≤ y.getD (m + 1) 0 := by
      obtain ⟨l, w, rfl⟩ := snoc_of_ne (l := y) (by intro h; rw [h] at hy0; simp at hy0)
      have := last_pos ib.nm hy
      simp at hm
      rw [show m + 1 = l.length by omega]
      simpa [List.getD_eq_getElem?_getD] using this
    have hty := hy.at (m + 1)
    obtain ⟨s, hs1, hs2, hs3, hs4⟩ := lz_eq ⟨htop1, hty.2⟩
    have hV := N_is (v := val b * 2 ^ s) (Int.mul_nonneg b0 (Int.le_of_lt (Int.pow_pos (by decide))))
    have hX := N_is (v := val a * 2 ^ s) (Int.mul_nonneg a0 (Int.le_of_lt (Int.pow_pos (by decide))))
    obtain ⟨hVn, htop⟩ := norm_top y (N (val b * 2 ^ s)) m s hs1 hy hm (by rw [ib.val]; exact hV) hs3 hs4
    have hp := pow_bd (s := s) (by omega)
    have hXl : (N (val a * 2 ^ s)).length ≤ x.length + 1 := by
      refine hX.len ?_
      have h1 : val a * 2 ^ s < 4294967296 ^ x.length * 2 ^ s := Int.mul_lt_mul_of_pos_right ia.lt (by omega)
      have h2 : (4294967296 : Int) ^ x.length * 2 ^ s ≤ 4294967296 ^ x.length * 4294967296 := Int.mul_le_mul_of_nonneg_left hp.2 (Int.le_of_lt (pow_pos' _))
      rw [pow_snoc]
      omega
    refine T ?_
    refine call_eq (by rw [show ((y.length : Int) - 1).toNat = m + 1 by omega]) (s_LeadingZeros32 (y.getD (m + 1) 0) hty.1 hty.2) ?_
    rw [hs2]
    refine T (call_by (s_Shl y s hy (by omega) (by omega)) ?_)
    rw [ib.val]
    refine T (call_by (s_Shl x s hx (by omega) (by omega)) ?_)
    rw [ia.val]
    generalize N (val b * 2 ^ s) = V at *
    generalize N (val a * 2 ^ s) = X at *
    refine T ?_
    have hUl : (X ++ List.replicate (x.length + 1 - X.length) (0 : Int)).length = x.length + 1 := by rw [List.length_append, List.length_replicate]; omega
    have hUw : Wf (X ++ List.replicate (x.length + 1 - X.length) (0 : Int)) := hX.wf.append (Wf.zeros _)
    have hUv : val (X ++ List.replicate (x.length + 1 - X.length) (0 : Int)) = val a * 2 ^ s := by rw [val_append, val_zeros, hX.val]; simp
    refine w_loop (α := Nat × List Int × List Int) (fun p => [(.t 8, .sc (.int .i64 s)), (.t 9, U V), (.t 10, .hs 51 1 0 (x.length + 1) 1), (.t 11, .hs 63 1 0 (x.length - y.length + 1) 1), (.t 12, .sc (.int .i64 ((p.1 : Int) - 1))), (.h 51, .blk 1 2 (p.2.1.map u32)), (.h 63, .blk 1 2 (p.2.2.map u32))])
      (fun p => p.1 ≤ x.length - y.length + 1 ∧ p.2.1.length = x.length + 1 ∧ p.2.2.length = x.length - y.length + 1 ∧ Wf p.2.1 ∧ Wf p.2.2 ∧ val (p.2.1.drop p.1) < val V ∧ Hd (val p.2.1 + 4294967296 ^ p.1 * val (p.2.2.drop p.1) * val V = val a * 2 ^ s)) (fun p => p.1)
      (x.length - y.length + 1, X ++ List.replicate (x.length + 1 - X.length) (0 : Int), List.replicate (x.length - y.length + 1) 0) ⟨Nat.le_refl _, hUl, by simp, hUw, Wf.zeros _, ?_, ⟨?_⟩⟩ ?_ ?_
    · generalize X ++ List.replicate (x.length + 1 - X.length) (0 : Int) = U at *
      have e := val_cut U (x.length - y.length + 1) (by omega)
      have h4 := val_nonneg (hUw.take (x.length - y.length + 1))
      have hb := ib.ge (by intro e; rw [e] at hm; simp at hm)
      have h5 : val a * 2 ^ s < 4294967296 ^ x.length * 2 ^ s := Int.mul_lt_mul_of_pos_right ia.lt (by omega)
      have h6 : 4294967296 ^ (y.length - 1) * 2 ^ s ≤ val b * 2 ^ s := Int.mul_le_mul_of_nonneg_right hb (by omega)
      have h7 : 4294967296 ^ (x.length - y.length + 1) * (4294967296 ^ (y.length - 1) * 2 ^ s) ≤ 4294967296 ^ (x.length - y.length + 1) * (val b * 2 ^ s) := Int.mul_le_mul_of_nonneg_left h6 (Int.le_of_lt (pow_pos' _))
      rw [← Int.mul_assoc, ← Int.pow_add, show x.length - y.length + 1 + (y.length - 1) = x.length from by omega] at h7
      rw [hUv] at e
      have h8 : 4294967296 ^ (x.length - y.length + 1) * val (U.drop (x.length - y.length + 1)) < 4294967296 ^ (x.length - y.length + 1) * (val b * 2 ^ s) := by omega
      rw [hV.val]
      exact Int.lt_of_mul_lt_mul_left h8 (Int.le_of_lt (pow_pos' _))
    · rw [List.drop_replicate, val_zeros, hUv]; simp
    · refine H ?_
      refine ⟨by rw [Int.add_sub_cancel], ?_⟩
      rw [setAt_row hXl]
    rintro ⟨c, O, q⟩ r ⟨p1, p2, p3, p4, p5, p6, p7⟩ J hJ
    simp only at p1 p2 p3 p4 p5 p6 p7
    rcases c with _ | c
    · refine T ?_
      refine call_eq (by rw [← p3]) (s_cut q (by omega)) ?_
      refine T ?_
      refine call_eq (by rw [← p2]) (s_Shr O s p4 (by omega) (by omega)) ?_
      refine TR ?_
      have h := p7.out
      rw [List.drop_zero] at p6
      rw [List.drop_zero, Int.pow_zero, Int.one_mul] at h
      have hU0 := val_nonneg p4
      have e1 : val a / val b = val q := by
        rw [← Int.mul_ediv_mul_of_pos_left (val a) (val b) (show (0 : Int) < 2 ^ s by omega), ← hV.val, ← h, Int.add_mul_ediv_right _ _ (by omega), Int.ediv_eq_zero_of_lt hU0 p6, Int.zero_add]
      have e2 : val a % val b = val O / 2 ^ s := by
        have : val a * 2 ^ s % (val b * 2 ^ s) = val O := by rw [← hV.val, ← h, Int.add_mul_emod_self_right, Int.emod_eq_of_lt hU0 p6]
        rw [← this, Int.mul_comm (val a), Int.mul_comm (val b), Int.mul_emod_mul_of_pos _ _ (by omega), Int.mul_ediv_cancel_left _ (by omega)]
      rw [trim_N p5, e1, e2]
    · obtain ⟨k1, k2, k3, k4⟩ := qr_step hV.wf hVn (by omega) (by omega) p4 p6 p7
      have hO3 : O = O.take c ++ (O.drop c).take (m + 3) ++ O.drop (c + m + 3) := by
        rw [List.append_assoc, show c + m + 3 = c + (m + 3) from rfl, ← List.drop_drop, List.take_append_drop, List.take_append_drop]
      have hcl : (O.take c).length = c := by rw [List.length_take]; omega
      have hml : ((O.drop c).take (m + 3)).length = m + 3 := by rw [List.length_take, List.length_drop]; omega
      have dg := s_digit (O.take c) ((O.drop c).take (m + 3)) (O.drop (c + m + 3)) V m k2 hV.wf hVn hml (by rw [hcl, hml, List.length_drop]; omega) htop k1
      have hm0 : 0 ≤ val ((O.drop c).take (m + 3)) % val V := Int.emod_nonneg _ (by have := val_nonneg p4; intro h0; rw [h0, Int.mul_zero] at k1; have := val_nonneg k2; omega)
      have hm1 : val ((O.drop c).take (m + 3)) % val V < val V := Int.emod_lt_of_pos _ (by have := val_nonneg k2; omega)
      have hVl := val_lt hV.wf
      have hpl := pow_le (m := V.length) (n := m + 3) (by omega)
      have k5 := k4 (fixN (m + 3) (val ((O.drop c).take (m + 3)) % val V)) (fixN_wf _ _) (fixN_len _ _) (fixN_val _ _ hm0 (by omega))
      rw [← hO3, hcl] at dg
      refine T ?_
      refine call_l (k := 51) (g := 1) (ys := [.hs 51 1 c (V.length + 1) 1, U V]) (ks := []) Hv (all_u32' _) Hv rfl rfl (by simp only [U, hVn]; rfl) dg ?_
      refine T ?_
      refine hJ _ (c, O.take c ++ fixN (m + 3) (val ((O.drop c).take (m + 3)) % val V) ++ O.drop (c + m + 3), q.set c (val ((O.drop c).take (m + 3)) / val V)) (Nat.lt_succ_self c) ⟨by show c ≤ _; omega, by simp [fixN_len]; omega, by simp [p3], ((p4.take c).append (fixN_wf _ _)).append (p4.drop _), p5.set _ k3.1 k3.2, ?_, ?_⟩ ?_
      · exact k5.1
      · exact k5.2
      · exact Hv
theorem N_len {u v : Int} (h0 : 0 ≤ u) (h : u ≤ v) : (N u).length ≤ (N v).length := (N_is h0).len (Int.lt_of_le_of_lt h (N_is (Int.le_trans h0 h)).lt)
theorem N_pos {v : Int} (h : 0 < v) : 0 < (N v).length := by
  rcases Nat.eq_zero_or_pos (N v).length with h0 | h0
  · have := (N_is (Int.le_of_lt h)).zero_iff.1 (List.eq_nil_of_length_eq_zero h0)
    omega
  · exact h0
theorem N_trim {v : Int} (h : 0 ≤ v) : trim (N v) = N v := (N_is h).nm
theorem gcd_step {u v : Int} (u0 : 0 ≤ u) (v0 : 0 ≤ v) : Int.gcd v (u % v) = Int.gcd u v := by
  obtain ⟨m, rfl⟩ := Int.eq_ofNat_of_zero_le u0
  obtain ⟨n, rfl⟩ := Int.eq_ofNat_of_zero_le v0
  show Nat.gcd n ((m % n : Nat) : Int).natAbs = Nat.gcd m n
  rw [Int.natAbs_natCast, Nat.gcd_comm n, ← Nat.gcd_rec, Nat.gcd_comm]
theorem s_Gcd (a b : List Int) (ha : Wf a) (hb : Wf b) (la : a.length ≤ 900000000) (lb : b.length ≤ 900000000) : Spec Try.prog 91 [U a, U b] (U (N (Int.gcd (val a) (val b) : Nat))) := by
  refine spec_of_awp mixed Try.func91 rfl Try.call91 (by kernel_rfl) (by simp) rfl ?_
  refine T (call_by (s_Trim a (by omega)) ?_)
  refine T (call_by (s_Trim b (by omega)) ?_)
  have la' := trim_len a
  have lb' := trim_len b
  rw [trim_N ha] at *
  rw [trim_N hb] at *
  have a0 := val_nonneg ha
  have b0 := val_nonneg hb
  refine T ?_
  refine w_loop (α := Int × Int) (fun p => [(.t 0, U (N p.1)), (.t 1, U (N p.2))]) (fun p => 0 ≤ p.1 ∧ 0 ≤ p.2 ∧ (N p.1).length ≤ 900000000 ∧ (N p.2).length ≤ 900000000 ∧ Int.gcd p.1 p.2 = Int.gcd (val a) (val b)) (fun p => p.2.toNat) (val a, val b) ⟨a0, b0, by show (N (val a)).length ≤ _; omega, by show (N (val b)).length ≤ _; omega, rfl⟩ ?_ ?_
  · exact Hv
  rintro ⟨u, v⟩ r ⟨u0, v0, lu, lv, hg⟩ J hJ
  simp only at u0 v0 lu lv hg
  rcases Int.lt_or_le 0 v with h | h
  · have hp := N_pos h
    refine T (call_by (s_QuoRem (N u) (N v) (N_wf u) (N_wf v) lu lv (by rw [N_val v0]; omega)) ?_)
    rw [N_val u0, N_val v0]
    have m0 := Int.emod_nonneg u (show v ≠ 0 by omega)
    have m1 := Int.emod_lt_of_pos u h
    refine T ?_
    refine hJ _ (v, u % v) (by show (u % v).toNat < v.toNat; omega) ⟨v0, m0, lv, ?_, ?_⟩ Hv
    · show (N (u % v)).length ≤ _
      have := N_len m0 (Int.le_of_lt m1)
      omega
    · show Int.gcd v (u % v) = _
      rw [← hg, gcd_step u0 v0]
  · have hv : v = 0 := by omega
    subst hv
    rw [N_zero] at lv ⊢
    refine T (call_by (s_Trim (N u) (by omega)) ?_)
    refine TR ?_
    rw [N_trim u0, ← hg]
    simp [Int.natAbs_of_nonneg u0]
def bitsL (l : List Int) : Int := if l.length = 0 then 0 else 32 * ((l.length : Int) - 1) + (Lib.bitLen (l.getD (l.length - 1) 0).toNat : Int)
theorem s_Bits (a : List Int) (ha : Wf a) (la : a.length ≤ 900000000) : Spec Try.prog 82 [U a] (.sc (.int .i64 (bitsL (N (val a))))) := by
  refine spec_of_awp mixed Try.func82 rfl Try.call82 (by kernel_rfl) (by simp) rfl ?_
  refine T (call_by (s_cut a (by omega)) ?_)
  have la' := trim_len a
  rw [trim_N ha] at *
  have hx := N_wf (val a)
  generalize N (val a) = x at *
  by_cases h : x.length = 0
  · refine TR ?_
    rw [bitsL, if_pos h]
  · have ht := hx.at (x.length - 1)
    have hb := Lib.bitLen_le (x.getD (x.length - 1) 0).toNat 32 (by decide) (by omega)
    refine T ?_
    refine call_eq (by rw [show ((x.length : Int) - 1).toNat = x.length - 1 by omega]) (s_Len32 _ ht.1 ht.2) ?_
    refine TR ?_
    rw [bitsL, if_neg h]
abbrev RA (b : Bool) (n d : List Int) : AV := .agg [.sc (.bool b), U n, U d]
theorem nm_iff {l : List Int} (h : l.length ≠ 0) : trim l = l ↔ l.getD (l.length - 1) 0 ≠ 0 := by
  obtain ⟨m, x, rfl⟩ := snoc_of_ne (l := l) (by intro e; rw [e] at h; simp at h)
  have e : (m ++ [x]).getD ((m ++ [x]).length - 1) 0 = x := by simp [List.getD_eq_getElem?_getD]
  rw [e]
  constructor
  · intro h1 h2
    subst h2
    rw [trim_zero] at h1
    have := congrArg List.length h1
    have l := trim_len m
    simp at this
    omega
  · exact trim_snoc m x
def natB (l : List Int) : Bool := decide (l.length ≤ 16 ∧ trim l = l)
theorem s_natural (l : List Int) (hl : l.length ≤ 4611686018427387904) : Spec Try.prog 96 [U l] (.sc (.bool (natB l))) := by
  refine spec_of_awp mixed Try.func96 rfl Try.call96 (by kernel_rfl) (by simp) rfl ?_
  by_cases h1 : l.length ≤ 16
  · by_cases h2 : l.length = 0
    · refine TR ?_
      have : l = [] := List.eq_nil_of_length_eq_zero h2
      subst this
      rfl
    · obtain ⟨n, hn⟩ : ∃ n, l.length = n + 1 := ⟨l.length - 1, by omega⟩
      have hi : ((l.length : Int) - 1).toNat = n := by omega
      by_cases h3 : l.getD ((l.length : Int) - 1).toNat 0 = 0
      · refine TR ?_
        rw [natB, decide_eq_false]
        rintro ⟨_, h4⟩
        have := (nm_iff h2).1 h4
        rw [hi] at h3
        rw [show l.length - 1 = n by omega] at this
        exact this h3
      · refine TR ?_
        rw [natB, decide_eq_true]
        refine ⟨h1, (nm_iff h2).2 ?_⟩
        rw [hi] at h3
        rwa [show l.length - 1 = n by omega]
  · refine TR ?_
    rw [natB, decide_eq_false]
    exact fun h => h1 h.1
theorem s_one (l : List Int) (hl : l.length ≤ 4611686018427387904) : Spec Try.prog 95 [U l] (.sc (.bool (decide (l = [1])))) := by
  refine spec_of_awp mixed Try.func95 rfl Try.call95 (by kernel_rfl) (by simp) rfl ?_
  by_cases h1 : l.length = 1
  · by_cases h2 : l.getD 0 0 = 1
    · refine TR ?_
      rw [decide_eq_true]
      match l, h1 with
      | [x], _ => simp at h2; rw [h2]
    · refine TR ?_
      rw [decide_eq_false]
      intro h
      rw [h] at h2
      exact h2 rfl
  · refine TR ?_
    rw [decide_eq_false]
    intro h
    rw [h] at h1
    exact h1 rfl
def formB (b : Bool) (n d : List Int) : Bool := decide (natB n = true ∧ natB d = true ∧ d.length ≠ 0 ∧ (b = true → n.length ≠ 0) ∧ Int.gcd (val n) (val d) = 1)
theorem N_eq_one {v : Int} (h : 0 ≤ v) : N v = [1] ↔ v = 1 := by
  constructor
  · intro e
    rw [← N_val h, e]; rfl
  · rintro rfl
    exact ((N_is h).unique ⟨Wf.one (by decide) (by decide), by decide, by decide⟩)
theorem gcd_len {n d : List Int} (hd : Wf d) (h : val d ≠ 0) : (N (Int.gcd (val n) (val d) : Nat)).length ≤ d.length := by
  have h0 := val_nonneg hd
  refine (N_is (Int.natCast_nonneg _)).len (Int.lt_of_le_of_lt ?_ (val_lt hd))
  have := Nat.gcd_le_right (val n).natAbs (show 0 < (val d).natAbs by omega)
  show ((Nat.gcd (val n).natAbs (val d).natAbs : Nat) : Int) ≤ _
  omega
theorem val_ne {d : List Int} (hd : Wf d) (h : trim d = d) (h0 : d.length ≠ 0) : val d ≠ 0 := by
  intro e
  have := trim_nil_val hd e
  rw [h] at this
  exact h0 (by rw [this]; rfl)
theorem s_Form (b : Bool) (n d : List Int) (hn : Wf n) (hd : Wf d) (ln : n.length ≤ 4611686018427387904) (ld : d.length ≤ 4611686018427387904) : Spec Try.prog 50 [RA b n d] (.sc (.bool (formB b n d))) := by
  refine spec_of_awp mixed Try.func50 rfl Try.call50 (by kernel_rfl) (by simp) rfl ?_
  refine T (call_by (s_natural n ln) ?_)
  cases h1 : natB n with
  | false =>
    refine TR ?_
    rw [formB, decide_eq_false]
    rintro ⟨h, _⟩
    rw [h1] at h; cases h
  | true =>
    refine T (call_by (s_natural d ld) ?_)
    cases h2 : natB d with
    | false =>
      refine TR ?_
      rw [formB, decide_eq_false]
      rintro ⟨_, h, _⟩
      rw [h2] at h; cases h
    | true =>
      have k1 : n.length ≤ 16 := (of_decide_eq_true h1).1
      have k2 : d.length ≤ 16 := (of_decide_eq_true h2).1
      by_cases h3 : d.length = 0
      · refine TR ?_
        rw [formB, decide_eq_false]
        rintro ⟨_, _, h, _⟩
        exact h h3
      · cases b with
        | true =>
          by_cases h4 : n.length = 0
          · refine TR ?_
            rw [formB, decide_eq_false]
            rintro ⟨_, _, _, h, _⟩
            exact h rfl h4
          · refine T (call_by (s_Gcd n d hn hd (by omega) (by omega)) ?_)
            have vd := val_ne hd (of_decide_eq_true h2).2 h3
            have gl := gcd_len (n := n) hd vd
            refine T (call_by (s_one (N (Int.gcd (val n) (val d) : Nat)) (by omega)) ?_)
            refine TR ?_
            have e : decide (N (Int.gcd (val n) (val d) : Nat) = [1]) = formB true n d := by
              rw [formB]
              apply decide_eq_decide.2
              rw [N_eq_one (Int.natCast_nonneg _)]
              simp [h1, h2, h3, h4]
              omega
            rw [e]
        | false =>
          refine T (call_by (s_Gcd n d hn hd (by omega) (by omega)) ?_)
          have vd := val_ne hd (of_decide_eq_true h2).2 h3
          have gl := gcd_len (n := n) hd vd
          refine T (call_by (s_one (N (Int.gcd (val n) (val d) : Nat)) (by omega)) ?_)
          refine TR ?_
          have e : decide (N (Int.gcd (val n) (val d) : Nat) = [1]) = formB false n d := by
            rw [formB]
            apply decide_eq_decide.2
            rw [N_eq_one (Int.natCast_nonneg _)]
            simp [h1, h2, h3]
            omega
          rw [e]
def mkR (b : Bool) (u v : Int) : (Bool × List Int × List Int) × Int :=
  if v = 0 then ((false, [], []), 10) else if u = 0 then ((false, [], [1]), 0) else
    if (N (u / (Int.gcd u v : Nat))).length ≤ 16 ∧ (N (v / (Int.gcd u v : Nat))).length ≤ 16 then ((b, N (u / (Int.gcd u v : Nat)), N (v / (Int.gcd u v : Nat))), 0) else ((false, [], []), 4)
abbrev resR (p : (Bool × List Int × List Int) × Int) : AV := .tup [RA p.1.1 p.1.2.1 p.1.2.2, .sc (.int .i64 p.2)]
theorem wk_zero (z : Int) : Wk (.tup [.agg [.sc (.bool false), .sc (.slice none 0 0), .sc (.slice none 0 0)], .sc (.int .i64 z)]) (resR ((false, [], []), z)) :=
  Wk.tup (WkL.cons (Wk.agg (WkL.cons (Wk.refl _) (WkL.cons Wk.nil (WkL.cons Wk.nil (WkL.refl _))))) (WkL.refl _))
theorem s_Make (b : Bool) (n d : List Int) (hn : Wf n) (hd : Wf d) (ln : n.length ≤ 900000000) (ld : d.length ≤ 900000000) : Spec Try.prog 48 [.sc (.bool b), U n, U d] (resR (mkR b (val n) (val d))) := by
  refine spec_of_awp mixed Try.func48 rfl Try.call48 (by kernel_rfl) (by simp) rfl ?_
  refine T (call_by (s_Trim n (by omega)) ?_)
  refine T (call_by (s_Trim d (by omega)) ?_)
  have ln' := trim_len n
  have ld' := trim_len d
  rw [trim_N hn] at *
  rw [trim_N hd] at *
  have u0 := val_nonneg hn
  have v0 := val_nonneg hd
  generalize val n = u at *
  generalize val d = v at *
  by_cases hv : v = 0
  · subst hv
    rw [N_zero]
    refine T (r_ret ?_)
    refine R ?_
    rw [mkR, if_pos rfl]
    exact wk_zero _
  have vp := N_pos (show 0 < v by omega)
  by_cases hu : u = 0
  · subst hu
    rw [N_zero]
    refine T (r_ret ?_)
    refine R ?_
    rw [mkR, if_neg hv, if_pos rfl]
    exact Wk.tup (WkL.cons (Wk.agg (WkL.cons (Wk.refl _) (WkL.cons Wk.nil (WkL.refl _)))) (WkL.refl _))
  have up := N_pos (show 0 < u by omega)
  refine T (call_by (s_Gcd (N u) (N v) (N_wf u) (N_wf v) (by omega) (by omega)) ?_)
  rw [N_val u0, N_val v0]
  have g0 : (0 : Int) ≤ (Int.gcd u v : Nat) := Int.natCast_nonneg _
  have gv : ((Int.gcd u v : Nat) : Int) ≤ v := by
    have := Nat.gcd_le_right u.natAbs (show 0 < v.natAbs by omega)
    show ((Nat.gcd u.natAbs v.natAbs : Nat) : Int) ≤ _
    omega
  have gp : (0 : Int) < (Int.gcd u v : Nat) := by
    have := Nat.gcd_pos_of_pos_right u.natAbs (show 0 < v.natAbs by omega)
    show (0 : Int) < ((Nat.gcd u.natAbs v.natAbs : Nat) : Int)
    omega
  have gl := N_len g0 gv
  have e : mkR b u v = if (N (u / (Int.gcd u v : Nat))).length ≤ 16 ∧ (N (v / (Int.gcd u v : Nat))).length ≤ 16 then ((b, N (u / (Int.gcd u v : Nat)), N (v / (Int.gcd u v : Nat))), 0) else ((false, [], []), 4) := by rw [mkR, if_neg hv, if_neg hu]
  rw [e]
  clear e
  generalize ((Int.gcd u v : Nat) : Int) = g at *
  refine T (call_by (s_one (N g) (by omega)) ?_)
  by_cases h1 : N g = [1]
  · rw [decide_eq_true h1]
    have hg : g = 1 := (N_eq_one g0).1 h1
    subst hg
    rw [Int.ediv_one, Int.ediv_one]
    by_cases k1 : (N u).length ≤ 16
    · by_cases k2 : (N v).length ≤ 16
      · rw [if_pos ⟨k1, k2⟩]
        exact TR rfl
      · rw [if_neg (fun h => k2 h.2)]
        refine T (r_ret ?_)
        exact R (wk_zero _)
    · rw [if_neg (fun h => k1 h.1)]
      refine T (r_ret ?_)
      exact R (wk_zero _)
  · rw [decide_eq_false h1]
    refine T (call_by (s_QuoRem (N u) (N g) (N_wf u) (N_wf g) (by omega) (by omega) (by rw [N_val g0]; omega)) ?_)
    rw [N_val u0, N_val g0]
    refine T (call_by (s_QuoRem (N v) (N g) (N_wf v) (N_wf g) (by omega) (by omega) (by rw [N_val g0]; omega)) ?_)
    rw [N_val v0, N_val g0]
    by_cases k1 : (N (u / g)).length ≤ 16
    · by_cases k2 : (N (v / g)).length ≤ 16
      · rw [if_pos ⟨k1, k2⟩]
        exact TR rfl
      · rw [if_neg (fun h => k2 h.2)]
        refine T (r_ret ?_)
        exact R (wk_zero _)
    · rw [if_neg (fun h => k1 h.1)]
      refine T (r_ret ?_)
      exact R (wk_zero _)
theorem N_mul_len {a b : List Int} (ha : Wf a) (hb : Wf b) : (N (val a * val b)).length ≤ a.length + b.length := by
  refine (N_is (Int.mul_nonneg (val_nonneg ha) (val_nonneg hb))).len ?_
  rw [Int.pow_add]
  have h1 := val_lt ha
  have h2 := val_lt hb
  have h3 := val_nonneg ha
  have h4 := val_nonneg hb
  have h5 : val a * val b ≤ val a * 4294967296 ^ b.length := Int.mul_le_mul_of_nonneg_left (Int.le_of_lt h2) h3
  have h6 : val a * 4294967296 ^ b.length < 4294967296 ^ a.length * 4294967296 ^ b.length := Int.mul_lt_mul_of_pos_right h1 (pow_pos' _)
  omega
theorem s_mul (b1 b2 : Bool) (n1 d1 n2 d2 : List Int) (w1 : Wf n1) (w2 : Wf d1) (w3 : Wf n2) (w4 : Wf d2) (l1 : n1.length ≤ 16) (l2 : d1.length ≤ 16) (l3 : n2.length ≤ 16) (l4 : d2.length ≤ 16) :
    Spec Try.prog 104 [RA b1 n1 d1, RA b2 n2 d2] (resR (mkR (b1 != b2) (val n1 * val n2) (val d1 * val d2))) := by
  refine spec_of_awp mixed Try.func104 rfl Try.call104 (by kernel_rfl) (by simp) rfl ?_
  have m1 := N_mul_len w1 w3
  have m2 := N_mul_len w2 w4
  have p1 := Int.mul_nonneg (val_nonneg w1) (val_nonneg w3)
  have p2 := Int.mul_nonneg (val_nonneg w2) (val_nonneg w4)
  refine T (dcall_by (s_Mul n1 n2 w1 w3 (by omega) (by omega)) ?_)
  refine T (dcall_by (s_Mul d1 d2 w2 w4 (by omega) (by omega)) ?_)
  refine T (dcall_by (s_Make (b1 != b2) (N (val n1 * val n2)) (N (val d1 * val d2)) (N_wf _) (N_wf _) (by omega) (by omega)) ?_)
  rw [N_val p1, N_val p2]
  exact TR rfl
abbrev RT := Bool × List Int × List Int
def rc (p : RT) : List AV := [.sc (.bool p.1), U p.2.1, U p.2.2]
abbrev RS (l : List RT) : AV := .vs l.length (l.flatMap rc)
theorem rc_len : ∀ (l : List RT), (l.flatMap rc).length = 3 * l.length
  | [] => rfl
  | p :: l => by simp only [List.flatMap_cons, List.length_append, rc_len l, rc, List.length_cons, List.length_nil]; omega
theorem rc_at : ∀ (l : List RT) (k : Nat) (h : k < l.length), ((l.flatMap rc).drop (k * 3)).take 3 = rc l[k]
  | p :: l, 0, h => by simp [rc]
  | p :: l, k + 1, h => by
    have := rc_at l k (by simpa using h)
    simp only [List.flatMap_cons, List.getElem_cons_succ]
    rw [show (k + 1) * 3 = (rc p).length + k * 3 by simp [rc]; omega, List.drop_length_add_append]
    exact this
structure RW (p : RT) : Prop where
  wn : Wf p.2.1
  wd : Wf p.2.2
  ln : p.2.1.length ≤ 4611686018427387904
  ld : p.2.2.length ≤ 4611686018427387904
def formR (p : RT) : Bool := formB p.1 p.2.1 p.2.2
theorem s_forms (l : List RT) (hl : l.length ≤ 4611686018427387904) (hw : ∀ p ∈ l, RW p) : Spec Try.prog 103 [RS l] (.sc (.bool (l.all formR))) := by
  refine spec_of_awp mixed Try.func103 rfl Try.call103 (by kernel_rfl) (by simp) rfl ?_
  have el := rc_len l
  refine T ?_
  refine w_loop (α := Nat) (fun k => [(.t 5, RS l), (.t 6, .sc (.int .i64 (l.length : Int))), (.t 7, .sc (.int .i64 (k : Int)))]) (fun k => k ≤ l.length ∧ (l.take k).all formR = true) (fun k => l.length - k) 0 ⟨Nat.zero_le _, rfl⟩ ?_ ?_
  · exact Hv
  rintro k r ⟨h1, h2⟩ J hJ
  by_cases h3 : k < l.length
  · have e := rc_at l k h3
    refine T ?_
    simp only [e, rc]
    have w := hw _ (List.getElem_mem h3)
    refine T (call_by (s_Form l[k].1 l[k].2.1 l[k].2.2 w.wn w.wd w.ln w.ld) ?_)
    cases h4 : formB l[k].1 l[k].2.1 l[k].2.2 with
    | true =>
      refine T ?_
      refine hJ _ (k + 1) (by omega) ⟨by omega, ?_⟩ Hv
      rw [List.take_succ_eq_append_getElem h3, List.all_append, h2]
      simp [formR, h4]
    | false =>
      refine TR ?_
      have : l.all formR = false := by
        rw [List.all_eq_false]
        exact ⟨l[k], List.getElem_mem h3, by simp [formR, h4]⟩
      rw [this]
  · refine TR ?_
    rw [List.take_of_length_le (by omega)] at h2
    rw [h2]
def oV (k : Nat) : Nat → AV
  | 0 => .sc (.slice none 0 0)
  | g + 1 => .hs k (g + 1) 0 (g + 1) 1
def oB : Nat → List Int → AV
  | 0, _ => .blk 0 0 []
  | g + 1, o => .blk (g + 1) 2 (o.map u32)
theorem q_Trim (l : List Int) (hl : l.length ≤ 35184372088832) : Spec Try.prog 46 [U l] (U (trim l)) := by
  refine spec_of_awp mixed Try.func46 rfl Try.call46 (by kernel_rfl) (by simp) rfl ?_
  refine TB ?_
  refine w_cut (α := Nat) (fun n => [(.t 0, U l), (.t 3, .sc (.int .i64 n)), (.h 31, .blk 0 0 [])]) (fun n => n ≤ l.length ∧ trim l = l.take n) ?_ ?_
  · intro J hJ
    refine T (w_loop (α := Nat) (fun n => [(.t 0, U l), (.t 3, .sc (.int .i64 n)), (.h 31, .blk 0 0 [])]) (fun n => n ≤ l.length ∧ trim (l.take n) = trim l) id l.length ⟨Nat.le_refl _, by simp⟩ ?_ ?_)
    · exact Hv
    rintro n r ⟨hn, et⟩ J2 hJ2
    rcases n with _ | n
    · refine T ?_
      exact hJ _ 0 ⟨Nat.zero_le _, by rw [← et]; rfl⟩ Hv
    · by_cases h0 : l.getD n 0 = 0
      · refine T ?_
        exact hJ2 _ n (Nat.lt_succ_self _) ⟨by omega, by rw [← et, trim_take_zero hn h0]⟩ Hv
      · refine T ?_
        exact hJ _ (n + 1) ⟨hn, by rw [← et, trim_take_ne hn h0]⟩ Hv
  rintro n r ⟨hn, et⟩
  refine T ?_
  refine w_loop (α := Nat) (fun i => [(.t 0, U l), (.t 3, .sc (.int .i64 n)), (.t 5, .sc (.int .i64 i)), (.t 4, oV 31 i), (.h 31, oB i (l.take i))]) (fun i => i ≤ n) (fun i => n - i) 0 (Nat.zero_le _) ?_ ?_
  · dsimp only [oV, oB]
    exact Hv
  rintro i r h1 J hJ
  rcases i with _ | i
  · dsimp only [oV, oB]
    by_cases h : n = 0
    · refine T (r_ret ?_)
      refine R ?_
      rw [et, h]
      exact Wk.nil
    · refine T ?_
      refine hJ _ 1 (by omega) (by omega) ?_
      have e : l.take 1 = [l.getD 0 0] := take_at (n := 0) (by omega)
      dsimp only [oV, oB]
      rw [e]
      refine H ?_
      exact ⟨rfl, rfl⟩
  · dsimp only [oV, oB]
    by_cases h : i + 1 < n
    · refine T ?_
      refine hJ _ (i + 2) (by omega) (by omega) ?_
      have e : l.take (i + 1 + 1) = l.take (i + 1) ++ [l.getD (i + 1) 0] := take_at (n := i + 1) (by omega)
      dsimp only [oV, oB]
      rw [e]
      exact Hv
    · have e : i + 1 = n := by omega
      subst e
      refine TR ?_
      rw [et]
      show AV.vs (i + 1) _ = AV.vs (l.take (i + 1)).length _
      rw [List.length_take, Nat.min_eq_left hn]
theorem q_Cmp (a b : List Int) (ha : Wf a) (hb : Wf b) (la : a.length ≤ 1000000000) (lb : b.length ≤ 1000000000) : Spec Try.prog 36 [U a, U b] (.sc (.int .i64 (sgn (val a) (val b)))) := by
  refine spec_of_awp mixed Try.func36 rfl Try.call36 (by kernel_rfl) (by simp) rfl ?_
  refine T (call_by (q_Trim a (by omega)) ?_)
  refine T (call_by (q_Trim b (by omega)) ?_)
  have la' := trim_len a
  have lb' := trim_len b
  have ia := Is.of ha rfl
  have ib := Is.of hb rfl
  by_cases h : (trim a).length = (trim b).length
  · refine T ?_
    refine w_loop (α := Nat) (fun n => [(.t 5, U (trim a)), (.t 6, U (trim b)), (.t 7, .sc (.int .i64 ((n : Int) - 1)))]) (fun n => n ≤ (trim a).length ∧ (trim a).drop n = (trim b).drop n) id (trim a).length ⟨Nat.le_refl _, by rw [List.drop_length, h, List.drop_length]⟩ ?_ ?_
    · exact Hv
    rintro n r ⟨h1, h2⟩ J hJ
    rcases n with _ | n
    · refine TR ?_
      rw [sgn_eq (by rw [← trim_val a, ← trim_val b]; simpa using congrArg val h2)]
    · by_cases e : (trim a).getD n 0 = (trim b).getD n 0
      · refine T ?_
        refine hJ _ n (Nat.lt_succ_self _) ⟨by omega, ?_⟩ Hv
        rw [drop_at (show n < (trim a).length by omega), drop_at (show n < (trim b).length by omega), e, h2]
      · by_cases e2 : (trim a).getD n 0 < (trim b).getD n 0
        · refine TR ?_
          rw [sgn_lt (by rw [← trim_val a, ← trim_val b]; exact lt_at ia.wf ib.wf (by omega) (by omega) h2 e2)]
        · refine TR ?_
          rw [sgn_gt (by rw [← trim_val a, ← trim_val b]; exact lt_at ib.wf ia.wf (by omega) (by omega) h2.symm (by omega))]
  · by_cases h2 : (trim a).length < (trim b).length
    · refine TR ?_
      rw [sgn_lt (ia.lt_of_len ib h2)]
    · refine TR ?_
      rw [sgn_gt (ib.lt_of_len ia (by omega))]
def bitL (l : List Int) (n : Nat) : Bool := decide (l.getD (n / 32) 0 / 2 ^ (n % 32) % 2 = 1)
theorem q_Bit (l : List Int) (n : Nat) (hw : Wf l) (hl : l.length ≤ 4611686018427387904) (hn : n ≤ 4611686018427387904) : Spec Try.prog 85 [U l, .sc (.int .i64 n)] (.sc (.bool (bitL l n))) := by
  refine spec_of_awp mixed Try.func85 rfl Try.call85 (by kernel_rfl) (by simp) rfl ?_
  have hs : n % 32 < 32 := Nat.mod_lt _ (by decide)
  by_cases h : n / 32 < l.length
  · have w := hw.at (n / 32)
    refine TR ?_
    have hp : (0 : Int) < 2 ^ (n % 32) := Int.pow_pos (by decide)
    rw [bitL, Int.fdiv_eq_ediv_of_nonneg _ (Int.le_of_lt hp), Int.tmod_eq_emod_of_nonneg (Int.ediv_nonneg w.1 (Int.le_of_lt hp))]
  · refine TR ?_
    rw [bitL, getD_big (by omega)]
    simp
theorem plus_step {a b o : List Int} {i : Nat} {c s : Int} (ho : o.length = i) (h : val (a.take i) + val (b.take i) = val o + 4294967296 ^ i * c) (e : s = c + a.getD i 0 + b.getD i 0) :
    val (a.take (i + 1)) + val (b.take (i + 1)) = val (o ++ [s % 4294967296]) + 4294967296 ^ (i + 1) * (s / 4294967296) := by
  rw [val_take_at a, val_take_at b, val_snoc, ho, Int.pow_succ]
  exact add_step h (by have := Int.mul_ediv_add_emod s 4294967296; omega)
theorem q_Plus (a b : List Int) (ha : Wf a) (hb : Wf b) (la : a.length ≤ 1000000000) (lb : b.length ≤ 1000000000) : Spec Try.prog 37 [U a, U b] (U (N (val a + val b))) := by
  refine spec_of_awp mixed Try.func37 rfl Try.call37 (by kernel_rfl) (by simp) rfl ?_
  refine T ?_
  refine w_loop (α := Nat × Int × List Int) (fun p => [(.t 0, U a), (.t 1, U b), (.t 6, .sc (.int .u64 p.2.1)), (.t 7, .sc (.int .i64 p.1)), (.t 5, oV 47 p.1), (.h 47, oB p.1 p.2.2), (.h 54, .blk 0 0 [])])
    (fun p => p.1 ≤ max a.length b.length ∧ p.2.2.length = p.1 ∧ Wf p.2.2 ∧ 0 ≤ p.2.1 ∧ p.2.1 < 2 ∧ val (a.take p.1) + val (b.take p.1) = val p.2.2 + 4294967296 ^ p.1 * p.2.1)
    (fun p => max a.length b.length - p.1) (0, 0, []) ⟨Nat.zero_le _, rfl, Wf.nil, by decide, by decide, by simp [val]⟩ ?_ ?_
  · dsimp only [oV, oB]
    exact Hv
  rintro ⟨i, c, o⟩ r ⟨h1, h2, h3, h4, h5, h6⟩ J hJ
  simp only at h1 h2 h3 h4 h5 h6
  have H6 := Hd.mk h6
  clear h6
  have wa := ha.at i
  have wb := hb.at i
  have fin : ∀ s, s = c + a.getD i 0 + b.getD i 0 → i < max a.length b.length → ∀ s', Has [(.t 0, U a), (.t 1, U b), (.t 6, .sc (.int .u64 (s / 4294967296))), (.t 7, .sc (.int .i64 ((i : Int) + 1))), (.t 5, .hs 47 (i + 1) 0 (i + 1) 1), (.h 47, .blk (i + 1) 2 ((o ++ [s % 4294967296]).map u32)), (.h 54, .blk 0 0 [])] s' → J s' := by
    intro s e hi s' hs
    refine hJ s' (i + 1, s / 4294967296, o ++ [s % 4294967296]) (by show _ - (i + 1) < _ - i; omega) ⟨by show i + 1 ≤ _; omega, by simp [h2], Wf.append h3 (Wf.one (by omega) (by omega)), ?_, ?_, plus_step h2 H6.out e⟩ hs
    · show 0 ≤ s / 4294967296; omega
    · show s / 4294967296 < 2; omega
  rcases i with _ | i
  · have : o = [] := List.eq_nil_of_length_eq_zero h2
    subst this
    dsimp only [oV, oB]
    by_cases h7 : 0 < a.length
    · by_cases h8 : 0 < b.length
      · refine T ?_
        refine fin _ rfl (by omega) _ (H ?_)
        exact ⟨rfl, rfl⟩
      · have : b.getD 0 0 = 0 := getD_big (by omega)
        refine T ?_
        refine fin (c + a.getD 0 0) (by omega) (by omega) _ (H ?_)
        exact ⟨rfl, rfl⟩
    · have e1 : a.getD 0 0 = 0 := getD_big (by omega)
      by_cases h8 : 0 < b.length
      · refine T ?_
        refine fin (c + b.getD 0 0) (by omega) (by omega) _ (H ?_)
        exact ⟨rfl, rfl⟩
      · have h6 := H6.out
        rw [List.take_zero, List.take_zero, Int.pow_zero, Int.one_mul] at h6
        refine T (call_by (q_Trim [c] (by simp)) ?_)
        refine TR ?_
        have e2 : a = [] := List.eq_nil_of_length_eq_zero (by omega)
        have e3 : b = [] := List.eq_nil_of_length_eq_zero (by omega)
        rw [trim_N (Wf.one h4 (by omega)), val_one, e2, e3, show val [] + val [] = c by have e0 : val [] = 0 := rfl; omega]
  · dsimp only [oV, oB]
    by_cases h7 : i + 1 < a.length
    · by_cases h8 : i + 1 < b.length
      · refine T ?_
        refine fin _ rfl (by omega) _ ?_
        exact Hv
      · have : b.getD (i + 1) 0 = 0 := getD_big (by omega)
        refine T ?_
        refine fin (c + a.getD (i + 1) 0) (by omega) (by omega) _ ?_
        exact Hv
    · have e1 : a.getD (i + 1) 0 = 0 := getD_big (by omega)
      by_cases h8 : i + 1 < b.length
      · refine T ?_
        refine fin (c + b.getD (i + 1) 0) (by omega) (by omega) _ ?_
        exact Hv
      · have h6 := H6.out
        rw [List.take_of_length_le (by omega), List.take_of_length_le (by omega)] at h6
        refine T ?_
        refine call_eq (by rw [show i + 1 + 1 = (o ++ [c]).length by simp [h2]]) (q_Trim (o ++ [c]) (by simp; omega)) ?_
        refine TR ?_
        rw [trim_N (Wf.append h3 (Wf.one h4 (by omega))), val_snoc, h2, h6]
theorem o_Trim (l : List Int) (hl : l.length ≤ 35184372088832) (h0 : (trim l).length ≠ 0) : SpecO Try.prog 46 [U l] (.hs 1000000 1 0 (trim l).length 1) ((trim l).map u32) := by
  refine specO_of_awp 31 (trim l).length mixed Try.func46 rfl Try.call46 (by kernel_rfl) (by simp) rfl ?_
  refine TB ?_
  refine w_cut (α := Nat) (fun n => [(.t 0, U l), (.t 3, .sc (.int .i64 n)), (.h 31, .blk 0 0 [])]) (fun n => n ≤ l.length ∧ trim l = l.take n) ?_ ?_
  · intro J hJ
    refine T (w_loop (α := Nat) (fun n => [(.t 0, U l), (.t 3, .sc (.int .i64 n)), (.h 31, .blk 0 0 [])]) (fun n => n ≤ l.length ∧ trim (l.take n) = trim l) id l.length ⟨Nat.le_refl _, by simp⟩ ?_ ?_)
    · exact Hv
    rintro n r ⟨hn, et⟩ J2 hJ2
    rcases n with _ | n
    · refine T ?_
      exact hJ _ 0 ⟨Nat.zero_le _, by rw [← et]; rfl⟩ Hv
    · by_cases h0 : l.getD n 0 = 0
      · refine T ?_
        exact hJ2 _ n (Nat.lt_succ_self _) ⟨by omega, by rw [← et, trim_take_zero hn h0]⟩ Hv
      · refine T ?_
        exact hJ _ (n + 1) ⟨hn, by rw [← et, trim_take_ne hn h0]⟩ Hv
  rintro n r ⟨hn, et⟩
  have ln : (trim l).length = n := by rw [et, List.length_take, Nat.min_eq_left hn]
  refine T ?_
  refine w_loop (α := Nat) (fun i => [(.t 0, U l), (.t 3, .sc (.int .i64 n)), (.t 5, .sc (.int .i64 i)), (.t 4, oV 31 i), (.h 31, oB i (l.take i))]) (fun i => i ≤ n) (fun i => n - i) 0 (Nat.zero_le _) ?_ ?_
  · dsimp only [oV, oB]
    exact Hv
  rintro i r h1 J hJ
  rcases i with _ | i
  · dsimp only [oV, oB]
    refine T ?_
    refine hJ _ 1 (by omega) (by omega) ?_
    have e : l.take 1 = [l.getD 0 0] := take_at (n := 0) (by omega)
    dsimp only [oV, oB]
    rw [e]
    refine H ?_
    exact ⟨rfl, rfl⟩
  · dsimp only [oV, oB]
    by_cases h : i + 1 < n
    · refine T ?_
      refine hJ _ (i + 2) (by omega) (by omega) ?_
      have e : l.take (i + 1 + 1) = l.take (i + 1) ++ [l.getD (i + 1) 0] := take_at (n := i + 1) (by omega)
      dsimp only [oV, oB]
      rw [e]
      exact Hv
    · have e : i + 1 = n := by omega
      subst e
      refine TO ?_
      rw [ln, et]
      exact ⟨by simp, Wk.refl _, rfl⟩
theorem q_Minus (a b : List Int) (ha : Wf a) (hb : Wf b) (la : a.length ≤ 1000000000) (lb : b.length ≤ 1000000000) (hle : val b ≤ val a) : Spec Try.prog 45 [U a, U b] (U (N (val a - val b))) := by
  refine spec_of_awp mixed Try.func45 rfl Try.call45 (by kernel_rfl) (by simp) rfl ?_
  have la' := trim_len a
  have ix := Is.of ha rfl
  have iy := Is.of hb rfl
  have hlen : (trim b).length ≤ (trim a).length := iy.len (Int.lt_of_le_of_lt hle ix.lt)
  by_cases h0 : (trim a).length = 0
  · refine T (call_by (q_Trim a (by omega)) ?_)
    refine T (call_by (q_Trim b (by omega)) ?_)
    refine T ?_
    refine w_loop (α := Unit) (fun _ => [(.t 5, U (trim a)), (.t 8, .sc (.int .i64 0))]) (fun _ => True) (fun _ => 0) () trivial ?_ ?_
    · exact Hv
    rintro ⟨⟩ r _ J hJ
    refine T (call_by (q_Trim (trim a) (by omega)) ?_)
    refine TR ?_
    have e := List.eq_nil_of_length_eq_zero h0
    have va : val a = 0 := by rw [← trim_val a, e]; rfl
    have vb := val_nonneg hb
    rw [trim_trim, e, show val a - val b = 0 by omega, N_zero]
  · refine T (call_o rfl (o_Trim a (by omega) h0) rfl ?_)
    refine T (call_by (q_Trim b (by omega)) ?_)
    have la' := trim_len a
    generalize trim a = x at *
    generalize trim b = y at *
    have hx := ix.wf
    have hy := iy.wf
    refine T ?_
    refine w_loop (α := Nat × Int × List Int) (fun p => [(.t 5, .hs 11 1 0 x.length 1), (.t 6, U y), (.t 7, .sc (.int .i64 p.2.1)), (.t 8, .sc (.int .i64 p.1)), (.h 11, .blk 1 2 (p.2.2.map u32))])
      (fun p => p.1 ≤ x.length ∧ p.2.2.length = x.length ∧ Wf p.2.2 ∧ 0 ≤ p.2.1 ∧ p.2.1 < 2 ∧ p.2.2.drop p.1 = x.drop p.1 ∧ val (p.2.2.take p.1) + val (y.take p.1) = val (x.take p.1) + 4294967296 ^ p.1 * p.2.1)
      (fun p => x.length - p.1) (0, 0, x) ⟨Nat.zero_le _, rfl, hx, Int.le_refl 0, (by decide : (0 : Int) < 2), rfl, by simp [val]⟩ ?_ ?_
    · exact Hv
    rintro ⟨i, c, o⟩ r ⟨h1, h2, h3, h4, h5, h7, h6⟩ J hJ
    simp only at h1 h2 h3 h4 h5 h6 h7
    have H6 := Hd.mk h6
    clear h6
    by_cases hi : i < x.length
    · have hai := hx.at i
      have hq : o.getD i 0 = x.getD i 0 := by
        have := congrArg (fun l => l.getD 0 0) h7
        simpa [List.getD_eq_getElem?_getD, List.getElem?_drop] using this
      have fin : ∀ z s c2 : Int, val (y.take (i + 1)) = val (y.take i) + 4294967296 ^ i * z → s + z + c = x.getD i 0 + 4294967296 * c2 → 0 ≤ s → s < 4294967296 → 0 ≤ c2 → c2 < 2 → ∀ s', Has [(.t 5, .hs 11 1 0 x.length 1), (.t 6, U y), (.t 7, .sc (.int .i64 c2)), (.t 8, .sc (.int .i64 ((i : Int) + 1))), (.h 11, .blk 1 2 ((o.set i s).map u32))] s' → J s' := by
        intro z s c2 hz e s0 s1 b0 b1 s' hs
        refine hJ s' (i + 1, c2, o.set i s) (by show _ - (i + 1) < _ - i; omega) ⟨hi, by simp [h2], Wf.set h3 _ s0 s1, b0, b1, ?_, ?_⟩ hs
        · show (o.set i s).drop (i + 1) = x.drop (i + 1)
          rw [drop_set_lt (by omega), ← List.drop_drop, h7, List.drop_drop]
        · show val ((o.set i s).take (i + 1)) + val (y.take (i + 1)) = val (x.take (i + 1)) + 4294967296 ^ (i + 1) * c2
          rw [val_take_at x, hz, val_take_set (by omega), pow_snoc]
          exact sub_step H6.out e
      rw [← hq] at fin hai
      by_cases hyi : i < y.length
      · have hyi' := hy.at i
        have hz := val_take_at y i
        by_cases hneg : o.getD i 0 - c - y.getD i 0 < 0
        · refine T ?_
          refine fin (y.getD i 0) (o.getD i 0 - c - y.getD i 0 + 4294967296) 1 hz (by omega) (by omega) (by omega) (by omega) (by omega) _ ?_
          exact Hv
        · refine T ?_
          refine fin (y.getD i 0) (o.getD i 0 - c - y.getD i 0) 0 hz (by omega) (by omega) (by omega) (by omega) (by omega) _ ?_
          exact Hv
      · have hz : val (y.take (i + 1)) = val (y.take i) + 4294967296 ^ i * 0 := by rw [val_take_at, getD_big (by omega)]
        by_cases hneg : o.getD i 0 - c < 0
        · refine T ?_
          refine fin 0 (o.getD i 0 - c + 4294967296) 1 hz (by omega) (by omega) (by omega) (by omega) (by omega) _ ?_
          exact Hv
        · refine T ?_
          refine fin 0 (o.getD i 0 - c) 0 hz (by omega) (by omega) (by omega) (by omega) (by omega) _ ?_
          exact Hv
    · have hi' : i = x.length := by omega
      subst hi'
      have h6 := H6.out
      rw [List.take_length, List.take_of_length_le (by omega), List.take_of_length_le hlen, ix.val, iy.val] at h6
      have hc0 : c = 0 := by
        have l1 := val_lt h3
        rw [h2] at l1
        rcases Int.lt_or_le c 1 with h | h
        · omega
        · have e : c = 1 := by omega
          rw [e] at h6
          omega
      rw [hc0] at h6
      refine T ?_
      refine call_eq (by rw [← h2]) (q_Trim o (by omega)) ?_
      refine TR ?_
      rw [trim_N h3, show val o = val a - val b by omega]
theorem q_Shl (a : List Int) (n : Nat) (ha : Wf a) (la : a.length ≤ 1000000000) (hn : n ≤ 1000000000000) : Spec Try.prog 84 [U a, .sc (.int .i64 n)] (U (N (val a * 2 ^ n))) := by
  refine spec_of_awp mixed Try.func84 rfl Try.call84 (by kernel_rfl) (by simp) rfl ?_
  have hs : n % 32 < 32 := Nat.mod_lt _ (by decide)
  have hp := pow_bd (s := n % 32) (by omega)
  refine T ?_
  refine w_loop (α := Nat × Int × List Int) (fun p => [(.t 0, U a), (.t 1, .sc (.int .i64 n)), (.t 5, .hs 11 (p.1 + 1) 0 (n / 32 + p.1) 1), (.t 6, .sc (.int .u64 p.2.1)), (.t 7, .sc (.int .i64 p.1)), (.h 11, .blk (p.1 + 1) 2 (p.2.2.map u32))])
    (fun p => p.1 ≤ a.length ∧ p.2.2.length = n / 32 + p.1 ∧ Wf p.2.2 ∧ 0 ≤ p.2.1 ∧ p.2.1 < 2 ^ (n % 32) ∧ val p.2.2 + 4294967296 ^ (n / 32 + p.1) * p.2.1 = 4294967296 ^ (n / 32) * (val (a.take p.1) * 2 ^ (n % 32)))
    (fun p => a.length - p.1) (0, 0, List.replicate (n / 32) 0) ⟨Nat.zero_le _, by simp, Wf.zeros _, Int.le_refl 0, by show (0 : Int) < _; omega, by simp [val, val_zeros]⟩ ?_ ?_
  · refine H ?_
    exact rfl
  rintro ⟨i, c, o⟩ r ⟨h1, h2, h3, h4, h5, h6⟩ J hJ
  simp only at h1 h2 h3 h4 h5 h6
  have H6 := Hd.mk h6
  clear h6
  by_cases hi : i < a.length
  · have hai := ha.at i
    obtain ⟨y, z, ey, ez, hy, hz, hyz, b1⟩ := rshlstep hs hai ⟨h4, h5⟩
    have b2 : 0 ≤ a.getD i 0 * 2 ^ (n % 32) := Int.mul_nonneg hai.1 (by omega)
    have fin : ∀ s', Has [(.t 0, U a), (.t 1, .sc (.int .i64 n)), (.t 5, .hs 11 (i + 1 + 1) 0 (n / 32 + i + 1) 1), (.t 6, .sc (.int .u64 ((a.getD i 0 * 2 ^ (n % 32) + c) / 4294967296))), (.t 7, .sc (.int .i64 ((i : Int) + 1))), (.h 11, .blk (i + 1 + 1) 2 ((o ++ [(a.getD i 0 * 2 ^ (n % 32) + c) % 4294967296]).map u32))] s' → J s' := by
      intro s' hs'
      rw [ey.out, ez.out] at hs'
      refine hJ s' (i + 1, z, o ++ [y]) (by show _ - (i + 1) < _ - i; omega) ⟨hi, by simp [h2]; omega, Wf.append h3 (Wf.one hy.1 hy.2), hz.1, hz.2, ?_⟩ hs'
      show val (o ++ [y]) + 4294967296 ^ (n / 32 + (i + 1)) * z = 4294967296 ^ (n / 32) * (val (a.take (i + 1)) * 2 ^ (n % 32))
      have e1 := H6.out
      have e2 := hyz.out
      rw [val_snoc, h2, val_take_at a, show n / 32 + (i + 1) = n / 32 + i + 1 from rfl, pow_snoc]
      rw [Int.pow_add] at e1 ⊢
      generalize (4294967296 : Int) ^ (n / 32) = K at *
      generalize (4294967296 : Int) ^ i = P at *
      generalize (2 : Int) ^ (n % 32) = S at *
      have e3 : K * P * (y + 4294967296 * z) = K * P * (a.getD i 0 * S + c) := by rw [e2]
      clear ey ez b1 b2
      grind
    clear ey ez hyz
    refine T ?_
    refine fin _ ?_
    exact Hv
  · have hi' : i = a.length := by omega
    subst hi'
    refine T ?_
    refine call_eq (by rw [show n / 32 + a.length + 1 = (o ++ [c]).length by simp [h2]]) (q_Trim (o ++ [c]) (by simp; omega)) ?_
    refine TR ?_
    have h6 := H6.out
    rw [List.take_length] at h6
    rw [trim_N (Wf.append h3 (Wf.one h4 (by omega))), val_snoc, h2, h6, pow_parts n, show 4294967296 ^ (n / 32) * (val a * 2 ^ (n % 32)) = val a * (4294967296 ^ (n / 32) * 2 ^ (n % 32)) from by grind]
theorem q_Shr (a : List Int) (n : Nat) (ha : Wf a) (la : a.length ≤ 1000000000) (hn : n ≤ 1000000000000) : Spec Try.prog 92 [U a, .sc (.int .i64 n)] (U (N (val a / 2 ^ n))) := by
  refine spec_of_awp mixed Try.func92 rfl Try.call92 (by kernel_rfl) (by simp) rfl ?_
  have hs : n % 32 < 32 := Nat.mod_lt _ (by decide)
  have hp := pow_bd (s := n % 32) (by omega)
  refine T ?_
  refine w_loop (α := Nat × Nat × List Int) (fun p => [(.t 0, U a), (.t 1, .sc (.int .i64 n)), (.t 6, .sc (.int .i64 p.2.1)), (.t 5, oV 44 p.1), (.h 44, oB p.1 p.2.2)])
    (fun p => p.2.1 = n / 32 + p.1 ∧ p.1 ≤ a.length - n / 32 ∧ p.2.2.length = p.1 ∧ Wf p.2.2 ∧ 2 ^ (n % 32) * val p.2.2 + a.getD (n / 32) 0 % 2 ^ (n % 32) = val ((a.drop (n / 32)).take p.1) + 4294967296 ^ p.1 * (a.getD p.2.1 0 % 2 ^ (n % 32)))
    (fun p => a.length - n / 32 - p.1) (0, n / 32, []) ⟨rfl, Nat.zero_le _, rfl, Wf.nil, by simp [val]⟩ ?_ ?_
  · dsimp only [oV, oB]
    exact Hv
  rintro ⟨i, j, o⟩ r ⟨ej, h1, h2, h3, h5⟩ J hJ
  simp only at ej h1 h2 h3 h5
  have H5 := Hd.mk h5
  clear h5
  by_cases hi : j < a.length
  · have hai := ha.at j
    have hbi := ha.at (j + 1)
    obtain ⟨z, ez, hz, hyz⟩ := shrstep hs hai hbi
    have fin : ∀ v, v = a.getD j 0 + a.getD (j + 1) 0 * 4294967296 → ∀ s', Has [(.t 0, U a), (.t 1, .sc (.int .i64 n)), (.t 6, .sc (.int .i64 ((j : Int) + 1))), (.t 5, .hs 44 (i + 1) 0 (i + 1) 1), (.h 44, .blk (i + 1) 2 ((o ++ [v / 2 ^ (n % 32) % 4294967296]).map u32))] s' → J s' := by
      intro v hv s' hs'
      rw [hv, Int.add_comm (a.getD j 0), ez.out] at hs'
      refine hJ s' (i + 1, j + 1, o ++ [z]) (by show _ - (i + 1) < _ - i; omega) ⟨by show j + 1 = n / 32 + (i + 1); omega, by show i + 1 ≤ _; omega, by simp [h2], Wf.append h3 (Wf.one hz.1 hz.2), ?_⟩ hs'
      show 2 ^ (n % 32) * val (o ++ [z]) + a.getD (n / 32) 0 % 2 ^ (n % 32) = val ((a.drop (n / 32)).take (i + 1)) + 4294967296 ^ (i + 1) * (a.getD (j + 1) 0 % 2 ^ (n % 32))
      rw [val_snoc, h2, val_take_at (a.drop _), getD_drop, ← ej, pow_snoc]
      have e := H5.out
      have := hyz.out
      clear ez hs'
      generalize (4294967296 : Int) ^ i = P at *
      generalize (2 : Int) ^ (n % 32) = S at *
      generalize a.getD j 0 = X at *
      generalize a.getD (j + 1) 0 = Y at *
      generalize a.getD (n / 32) 0 % S = X0 at *
      have e2 : P * (S * z + X % S) = P * (X + 4294967296 * (Y % S)) := by rw [this]
      grind
    clear ez hyz
    by_cases hj : j + 1 < a.length
    · have v0 : 0 ≤ (a.getD j 0 + a.getD (j + 1) 0 * 4294967296) / 2 ^ (n % 32) := Int.ediv_nonneg (by omega) (by omega)
      rcases i with _ | i
      · have : o = [] := List.eq_nil_of_length_eq_zero h2
        subst this
        dsimp only [oV, oB]
        refine T ?_
        refine fin _ rfl _ (H ?_)
        exact rfl
      · dsimp only [oV, oB]
        refine T ?_
        refine fin _ rfl _ ?_
        exact Hv
    · have v0 : 0 ≤ a.getD j 0 / 2 ^ (n % 32) := Int.ediv_nonneg hai.1 (by omega)
      have hy0 : a.getD (j + 1) 0 = 0 := getD_big (by omega)
      rw [hy0, Int.zero_mul] at fin
      rcases i with _ | i
      · have : o = [] := List.eq_nil_of_length_eq_zero h2
        subst this
        dsimp only [oV, oB]
        refine T ?_
        refine fin _ (Int.add_zero _).symm _ (H ?_)
        exact rfl
      · dsimp only [oV, oB]
        refine T ?_
        refine fin _ (Int.add_zero _).symm _ ?_
        exact Hv
  · have key : val a / 2 ^ n = val o := by
      have h5 := H5.out
      rcases Nat.lt_or_ge a.length (n / 32 + 1) with hc | hc
      · have hi0 : i = 0 := by omega
        subst hi0
        rw [List.eq_nil_of_length_eq_zero h2]
        have h1 := val_nonneg ha
        have h2 := val_lt ha
        have h3 := pow_le (show a.length ≤ n / 32 by omega)
        have h4 : (4294967296 : Int) ^ (n / 32) * 1 ≤ 4294967296 ^ (n / 32) * 2 ^ (n % 32) := Int.mul_le_mul_of_nonneg_left hp.1 (Int.le_of_lt (pow_pos' _))
        rw [← pow_parts] at h4
        exact Int.ediv_eq_zero_of_lt h1 (by omega)
      · rw [getD_big (l := a) (n := j) (by omega), List.take_of_length_le (by simp; omega), Int.zero_emod, Int.mul_zero, Int.add_zero] at h5
        rw [pow_parts n, ← Int.ediv_ediv_of_nonneg (Int.le_of_lt (pow_pos' _)), val_div a ha _ (by omega)]
        rw [← h5, Int.add_comm, Int.add_mul_ediv_left _ _ (by omega), Int.ediv_eq_zero_of_lt (Int.emod_nonneg _ (by omega)) (Int.emod_lt_of_pos _ (by omega)), Int.zero_add]
    rcases i with _ | i
    · have : o = [] := List.eq_nil_of_length_eq_zero h2
      subst this
      dsimp only [oV, oB]
      refine T (call_wk (WkL.cons Wk.nil (WkL.refl _)) (q_Trim [] (by simp)) ?_)
      refine TR ?_
      rw [key]
      show U (trim []) = U (N 0)
      rw [N_zero]; rfl
    · dsimp only [oV, oB]
      refine T ?_
      refine call_eq (by rw [← h2]) (q_Trim o (by omega)) ?_
      refine TR ?_
      rw [trim_N h3, key]
theorem top_pos {l : List Int} (hw : Wf l) (h : trim l = l) (hl : l.length ≠ 0) : 1 ≤ l.getD (l.length - 1) 0 := by
  have h1 := (nm_iff hl).1 h
  have h2 := hw.at (l.length - 1)
  omega
theorem q_Bits (a : List Int) (ha : Wf a) (la : a.length ≤ 900000000) : Spec Try.prog 27 [U a] (.sc (.int .i64 (bitsL (N (val a))))) := by
  refine spec_of_awp mixed Try.func27 rfl Try.call27 (by kernel_rfl) (by simp) rfl ?_
  refine T (call_by (q_Trim a (by omega)) ?_)
  have la' := trim_len a
  rw [trim_N ha] at *
  have hx := N_wf (val a)
  generalize N (val a) = x at *
  by_cases h : x.length = 0
  · refine TR ?_
    rw [bitsL, if_pos h]
  · have wt := hx.at (x.length - 1)
    have hb := Lib.bitLen_le (x.getD (x.length - 1) 0).toNat 32 (by decide) (by omega)
    have ei : ((x.length : Int) - 1).toNat = x.length - 1 := by omega
    rw [bitsL, if_neg h]
    refine T ?_
    refine w_loop (α := Int × Int) (fun p => [(.t 5, .sc (.int .u32 p.1)), (.t 4, .sc (.int .i64 p.2))]) (fun p => 0 ≤ p.1 ∧ p.1 < 4294967296 ∧ 0 ≤ p.2 ∧ p.2 + (Lib.bitLen p.1.toNat : Int) = 32 * ((x.length : Int) - 1) + (Lib.bitLen (x.getD (x.length - 1) 0).toNat : Int)) (fun p => p.1.toNat) (x.getD (x.length - 1) 0, 32 * ((x.length : Int) - 1)) ⟨wt.1, wt.2, by show (0 : Int) ≤ 32 * _; omega, rfl⟩ ?_ ?_
    · refine H ?_
      rw [ei]
    rintro ⟨y, n⟩ r ⟨h1, h2, h3, h4⟩ J hJ
    simp only at h1 h2 h3 h4
    by_cases hy : 0 < y
    · have e := Lib.bitLen_half y.toNat (by omega) (by omega)
      rw [show y.toNat / 2 = (y / 2).toNat from by omega] at e
      refine T ?_
      refine hJ _ (y / 2, n + 1) (by show (y / 2).toNat < y.toNat; omega) ⟨by show 0 ≤ y / 2; omega, by show y / 2 < _; omega, by show 0 ≤ n + 1; omega, by show n + 1 + (Lib.bitLen (y / 2).toNat : Int) = _; omega⟩ Hv
    · have hy0 : y = 0 := by omega
      have e0 : Lib.bitLen 0 = 0 := by decide +kernel
      rw [hy0, Int.toNat_zero, e0] at h4
      refine TR ?_
      rw [show n = 32 * ((x.length : Int) - 1) + (Lib.bitLen (x.getD (x.length - 1) 0).toNat : Int) by omega]
theorem bitsL_lt {l : List Int} (hw : Wf l) (h : trim l = l) : val l < 2 ^ (bitsL l).toNat := by
  unfold bitsL
  by_cases hl : l.length = 0
  · rw [if_pos hl, List.eq_nil_of_length_eq_zero hl]
    simp [val]
  · rw [if_neg hl]
    obtain ⟨m, hm⟩ : ∃ m, l.length = m + 1 := ⟨l.length - 1, by omega⟩
    have wt := top_pos hw h hl
    have wtt := hw.at (l.length - 1)
    rw [show l.length - 1 = m from by omega] at wt wtt ⊢
    obtain ⟨n, hn⟩ := Int.eq_ofNat_of_zero_le (show 0 ≤ l.getD m 0 by omega)
    have hb := (Lib.bitLenAux_bounds 64 n (by omega) (by omega)).2.2
    have eV : val l = val (l.take m) + 4294967296 ^ m * l.getD m 0 := by rw [← val_take_at l, List.take_of_length_le (by omega)]
    have hX := take_lt hw m (by omega)
    rw [hn, Int.toNat_natCast] at *
    have e : (32 * ((l.length : Int) - 1) + (Lib.bitLen n : Int)).toNat = 32 * m + Lib.bitLen n := by omega
    rw [e, Int.pow_add, ← pow32, eV]
    have h2 : ((n : Int) + 1) ≤ 2 ^ Lib.bitLen n := by
      have : ((n + 1 : Nat) : Int) ≤ ((2 ^ Lib.bitLen n : Nat) : Int) := Int.ofNat_le.2 hb
      simpa using this
    have h3 : 4294967296 ^ m * ((n : Int) + 1) ≤ 4294967296 ^ m * 2 ^ Lib.bitLen n := Int.mul_le_mul_of_nonneg_left h2 (Int.le_of_lt (pow_pos' m))
    rw [Int.mul_add, Int.mul_one] at h3
    omega
theorem bitsL_bd {l : List Int} (hw : Wf l) : 0 ≤ bitsL l ∧ bitsL l ≤ 32 * l.length := by
  unfold bitsL
  split
  · omega
  · have wt := hw.at (l.length - 1)
    have hb := Lib.bitLen_le (l.getD (l.length - 1) 0).toNat 32 (by decide) (by omega)
    omega
theorem bitL_eq {l : List Int} (hw : Wf l) (n : Nat) : bitL l n = decide (val l / 2 ^ n % 2 = 1) := by
  unfold bitL
  by_cases h : n / 32 < l.length
  · rw [← bit_at l hw (n / 32) (n % 32) h (by omega), show 32 * (n / 32) + n % 32 = n from by omega]
  · rw [getD_big (by omega), bit_none l hw n (by omega)]
    simp
theorem NN_len {m n : Nat} (h : m ≤ n) : (N (m : Int)).length ≤ (N (n : Int)).length := N_len (Int.natCast_nonneg _) (by omega)
theorem NN_zero {m : Nat} : (N (m : Int)).length = 0 ↔ m = 0 := by
  constructor
  · intro h
    rcases Nat.eq_zero_or_pos m with h1 | h1
    · exact h1
    · have := N_pos (show (0 : Int) < (m : Int) by omega)
      omega
  · rintro rfl
    rw [show ((0 : Nat) : Int) = 0 from rfl, N_zero]; rfl
theorem bit_of {m T : Nat} : bitL (N (m : Int)) T = decide (m / 2 ^ T % 2 = 1) := by
  rw [bitL_eq (N_wf _), N_val (Int.natCast_nonneg _)]
  apply decide_eq_decide.2
  have e : (m : Int) / 2 ^ T % 2 = ((m / 2 ^ T % 2 : Nat) : Int) := by simp
  rw [e]
  omega
theorem shr_of {m T : Nat} : val (N (m : Int)) / 2 ^ T = ((m / 2 ^ T : Nat) : Int) := by
  rw [N_val (Int.natCast_nonneg _)]; simp
theorem dvd_up {v T : Nat} (hv : 2 ^ T ∣ v) (h : ¬ v / 2 ^ T % 2 = 1) : 2 ^ (T + 1) ∣ v := by
  have e : v / 2 ^ T * 2 ^ T = v := Nat.div_mul_cancel hv
  refine ⟨v / 2 ^ T / 2, ?_⟩
  have e2 : v / 2 ^ T = 2 * (v / 2 ^ T / 2) := by omega
  generalize v / 2 ^ T / 2 = w at *
  rw [← e, e2, Nat.pow_succ]
  grind
theorem dvd_lt {m T : Nat} (hm : m ≠ 0) (h : 2 ^ T ∣ m) : T < 32 * (N (m : Int)).length := by
  have h1 := (N_is (Int.natCast_nonneg m)).lt
  have h2 : 2 ^ T ≤ m := Nat.le_of_dvd (by omega) h
  rcases Nat.lt_or_ge T (32 * (N (m : Int)).length) with h3 | h3
  · exact h3
  · have h4 : (2 : Nat) ^ (32 * (N (m : Int)).length) ≤ 2 ^ T := Nat.pow_le_pow_right (by decide) h3
    rw [pow32] at h1
    have h5 : (m : Int) < ((2 ^ (32 * (N (m : Int)).length) : Nat) : Int) := by simpa using h1
    omega
theorem q_Common (a b : List Int) (ha : Wf a) (hb : Wf b) (la : a.length ≤ 900000000) (lb : b.length ≤ 900000000) : Spec Try.prog 41 [U a, U b] (U (N (Int.gcd (val a) (val b) : Nat))) := by
  refine spec_of_awp mixed Try.func41 rfl Try.call41 (by kernel_rfl) (by simp) rfl ?_
  refine T (call_by (q_Trim a (by omega)) ?_)
  refine T (call_by (q_Trim b (by omega)) ?_)
  have la' := trim_len a
  have lb' := trim_len b
  rw [trim_N ha] at *
  rw [trim_N hb] at *
  obtain ⟨m, hm⟩ := Int.eq_ofNat_of_zero_le (val_nonneg ha)
  obtain ⟨n, hn⟩ := Int.eq_ofNat_of_zero_le (val_nonneg hb)
  rw [hm] at la'
  rw [hn] at lb'
  rw [hm, hn]
  have eg : Int.gcd (m : Int) (n : Int) = Nat.gcd m n := by simp [Int.gcd]
  rw [eg]
  have zm := NN_zero (m := m)
  have zn := NN_zero (m := n)
  by_cases hm0 : (N (m : Int)).length = 0
  · refine TR ?_
    rw [zm.1 hm0, Nat.gcd_zero_left]
  by_cases hn0 : (N (n : Int)).length = 0
  · refine TR ?_
    rw [zn.1 hn0, Nat.gcd_zero_right]
  have hm1 : m ≠ 0 := fun h => hm0 (zm.2 h)
  refine TB ?_
  refine w_cut (α := Nat) (fun t => [(.t 5, U (N (m : Int))), (.t 6, U (N (n : Int))), (.t 7, .sc (.int .i64 t))]) (fun t => 2 ^ t ∣ m ∧ 2 ^ t ∣ n ∧ (m / 2 ^ t % 2 = 1 ∨ n / 2 ^ t % 2 = 1)) ?_ ?_
  · intro J hJ
    refine T (w_loop (α := Nat) (fun t => [(.t 5, U (N (m : Int))), (.t 6, U (N (n : Int))), (.t 7, .sc (.int .i64 t))]) (fun t => 2 ^ t ∣ m ∧ 2 ^ t ∣ n) (fun t => 32 * (N (m : Int)).length - t) 0 ⟨by simp, by simp⟩ ?_ ?_)
    · exact Hv
    rintro t r ⟨d1, d2⟩ J2 hJ2
    have tl := dvd_lt hm1 d1
    refine T (call_by (q_Bit (N (m : Int)) t (N_wf _) (by omega) (by omega)) ?_)
    rw [bit_of]
    by_cases c1 : m / 2 ^ t % 2 = 1
    · rw [decide_eq_true c1]
      refine T ?_
      exact hJ _ t ⟨d1, d2, .inl c1⟩ Hv
    · rw [decide_eq_false c1]
      refine T (call_by (q_Bit (N (n : Int)) t (N_wf _) (by omega) (by omega)) ?_)
      rw [bit_of]
      by_cases c2 : n / 2 ^ t % 2 = 1
      · rw [decide_eq_true c2]
        refine T ?_
        exact hJ _ t ⟨d1, d2, .inr c2⟩ Hv
      · rw [decide_eq_false c2]
        refine T ?_
        exact hJ2 _ (t + 1) (by show _ - (t + 1) < _ - t; omega) ⟨dvd_up d1 c1, dvd_up d2 c2⟩ Hv
  rintro t r ⟨d1, d2, d3⟩
  have tl := dvd_lt hm1 d1
  have ltm : (N ((m / 2 ^ t : Nat) : Int)).length ≤ (N (m : Int)).length := NN_len (Nat.div_le_self _ _)
  have ltn : (N ((n / 2 ^ t : Nat) : Int)).length ≤ (N (n : Int)).length := NN_len (Nat.div_le_self _ _)
  have gt : Nat.gcd (m / 2 ^ t) (n / 2 ^ t) * 2 ^ t = Nat.gcd m n := by
    rw [← Nat.gcd_mul_right, Nat.div_mul_cancel d1, Nat.div_mul_cancel d2]
  refine T (call_by (q_Shr (N (m : Int)) t (N_wf _) (by omega) (by omega)) ?_)
  rw [shr_of]
  refine T (call_by (q_Shr (N (n : Int)) t (N_wf _) (by omega) (by omega)) ?_)
  rw [shr_of]
  generalize m / 2 ^ t = m1 at *
  generalize n / 2 ^ t = n1 at *
  refine TB ?_
  refine w_cut (α := Nat × Nat) (fun p => [(.t 5, U (N (p.1 : Int))), (.t 6, U (N (p.2 : Int))), (.t 7, .sc (.int .i64 t))]) (fun p => p.1 + p.2 = Nat.gcd m1 n1 ∧ (N (p.1 : Int)).length ≤ 900000000 ∧ (N (p.2 : Int)).length ≤ 900000000 ∧ (N ((p.1 + p.2 : Nat) : Int)).length ≤ 900000000) ?_ ?_
  · intro J hJ
    refine T (w_loop (α := Nat × Nat) (fun p => [(.t 5, U (N (p.1 : Int))), (.t 6, U (N (p.2 : Int))), (.t 7, .sc (.int .i64 t))]) (fun p => (p.1 % 2 = 1 ∨ p.2 % 2 = 1) ∧ Nat.gcd p.1 p.2 = Nat.gcd m1 n1 ∧ (N (p.1 : Int)).length ≤ 900000000 ∧ (N (p.2 : Int)).length ≤ 900000000) (fun p => p.1 + p.2) (m1, n1) ⟨d3, rfl, by show (N (m1 : Int)).length ≤ _; omega, by show (N (n1 : Int)).length ≤ _; omega⟩ ?_ ?_)
    · exact Hv
    rintro ⟨x, y⟩ r ⟨o1, o2, o3, o4⟩ J2 hJ2
    simp only at o1 o2 o3 o4
    have zx := NN_zero (m := x)
    have zy := NN_zero (m := y)
    by_cases hx0 : (N (x : Int)).length = 0
    · refine T ?_
      refine hJ _ (x, y) ⟨?_, o3, o4, ?_⟩ Hv
      · show x + y = _
        rw [← o2, zx.1 hx0, Nat.gcd_zero_left, Nat.zero_add]
      · show (N ((x + y : Nat) : Int)).length ≤ _
        rw [zx.1 hx0, Nat.zero_add]; exact o4
    by_cases hy0 : (N (y : Int)).length = 0
    · refine T ?_
      refine hJ _ (x, y) ⟨?_, o3, o4, ?_⟩ Hv
      · show x + y = _
        rw [← o2, zy.1 hy0, Nat.gcd_zero_right, Nat.add_zero]
      · show (N ((x + y : Nat) : Int)).length ≤ _
        rw [zy.1 hy0, Nat.add_zero]; exact o3
    have hx1 : x ≠ 0 := fun h => hx0 (zx.2 h)
    have hy1 : y ≠ 0 := fun h => hy0 (zy.2 h)
    refine T (call_by (q_Bit (N (x : Int)) 0 (N_wf _) (by omega) (by omega)) ?_)
    rw [bit_of, Nat.pow_zero, Nat.div_one]
    by_cases c1 : x % 2 = 1
    · rw [decide_eq_true c1]
      refine T (call_by (q_Bit (N (y : Int)) 0 (N_wf _) (by omega) (by omega)) ?_)
      rw [bit_of, Nat.pow_zero, Nat.div_one]
      by_cases c2 : y % 2 = 1
      · rw [decide_eq_true c2]
        refine T (call_by (q_Cmp (N (x : Int)) (N (y : Int)) (N_wf _) (N_wf _) (by omega) (by omega)) ?_)
        rw [N_val (Int.natCast_nonneg _), N_val (Int.natCast_nonneg _)]
        by_cases c3 : y ≤ x
        · have e3 := sgn_ge.2 (show (y : Int) ≤ x by omega)
          refine T (call_by (q_Minus (N (x : Int)) (N (y : Int)) (N_wf _) (N_wf _) (by omega) (by omega) (by rw [N_val (Int.natCast_nonneg _), N_val (Int.natCast_nonneg _)]; omega)) ?_)
          rw [N_val (Int.natCast_nonneg _), N_val (Int.natCast_nonneg _), show (x : Int) - y = ((x - y : Nat) : Int) by omega]
          have := NN_len (show x - y ≤ x by omega)
          refine T ?_
          refine hJ2 _ (x - y, y) (by show x - y + y < x + y; omega) ⟨.inr c2, ?_, by show (N ((x - y : Nat) : Int)).length ≤ _; omega, o4⟩ Hv
          show Nat.gcd (x - y) y = _
          rw [← o2, Nat.gcd_sub_self_left c3]
        · have e3 : ¬ sgn (x : Int) y ≥ 0 := fun h => c3 (by have := sgn_ge.1 h; omega)
          refine T (call_by (q_Minus (N (y : Int)) (N (x : Int)) (N_wf _) (N_wf _) (by omega) (by omega) (by rw [N_val (Int.natCast_nonneg _), N_val (Int.natCast_nonneg _)]; omega)) ?_)
          rw [N_val (Int.natCast_nonneg _), N_val (Int.natCast_nonneg _), show (y : Int) - x = ((y - x : Nat) : Int) by omega]
          have := NN_len (show y - x ≤ y by omega)
          refine T ?_
          refine hJ2 _ (x, y - x) (by show x + (y - x) < x + y; omega) ⟨.inl c1, ?_, o3, by show (N ((y - x : Nat) : Int)).length ≤ _; omega⟩ Hv
          show Nat.gcd x (y - x) = _
          rw [← o2, Nat.gcd_sub_self_right (by omega)]
      · rw [decide_eq_false c2]
        refine T (call_by (q_Shr (N (y : Int)) 1 (N_wf _) (by omega) (by omega)) ?_)
        rw [shr_of, Nat.pow_one]
        have := NN_len (show y / 2 ≤ y by omega)
        refine T ?_
        refine hJ2 _ (x, y / 2) (by show x + y / 2 < x + y; omega) ⟨.inl c1, ?_, o3, by show (N ((y / 2 : Nat) : Int)).length ≤ _; omega⟩ Hv
        show Nat.gcd x (y / 2) = _
        rw [← o2, Nat.gcd_comm, gcd_half (by omega) c1, Nat.gcd_comm]
    · rw [decide_eq_false c1]
      refine T (call_by (q_Shr (N (x : Int)) 1 (N_wf _) (by omega) (by omega)) ?_)
      rw [shr_of, Nat.pow_one]
      have := NN_len (show x / 2 ≤ x by omega)
      refine T ?_
      refine hJ2 _ (x / 2, y) (by show x / 2 + y < x + y; omega) ⟨by right; omega, ?_, by show (N ((x / 2 : Nat) : Int)).length ≤ _; omega, o4⟩ Hv
      show Nat.gcd (x / 2) y = _
      rw [← o2, gcd_half (by omega) (by omega)]
  rintro ⟨x, y⟩ r ⟨o1, o3, o4, o5⟩
  simp only at o1 o3 o4 o5
  rw [show ((x + y : Nat) : Int) = (x : Int) + y by omega] at o5
  refine T (call_by (q_Plus (N (x : Int)) (N (y : Int)) (N_wf _) (N_wf _) (by omega) (by omega)) ?_)
  rw [N_val (Int.natCast_nonneg _), N_val (Int.natCast_nonneg _)]
  refine T (call_by (q_Shl (N ((x : Int) + y)) t (N_wf _) (by omega) (by omega)) ?_)
  refine TR ?_
  rw [N_val (by omega), show (x : Int) + y = ((x + y : Nat) : Int) by omega, o1, ← gt]
  simp
theorem limb_one {N : Nat} : (1 : Int) ≤ 2 ^ (N % 32) ∧ (2 : Int) ^ (N % 32) * 2 ≤ 4294967296 := by
  have h : N % 32 < 32 := Nat.mod_lt _ (by decide)
  generalize N % 32 = j at *
  have h1 := (pow_bd (s := j) (by omega)).1
  have h2 := (pow_bd (s := j + 1) (by omega)).2
  rw [Int.pow_succ] at h2
  exact ⟨h1, h2⟩
def rV (n0 N' : Nat) (v : Int) : AV := if N' = n0 then .sc (.slice none 0 0) else U (N v)
theorem q_Divide (a b : List Int) (ha : Wf a) (hb : Wf b) (la : a.length ≤ 900000000) (lb : b.length ≤ 900000000) (hB : val b ≠ 0) : Spec Try.prog 28 [U a, U b] (.tup [U (N (val a / val b)), U (N (val a % val b))]) := by
  refine spec_of_awp mixed Try.func28 rfl Try.call28 (by kernel_rfl) (by simp) rfl ?_
  refine T (call_by (q_Bits a ha la) ?_)
  have hB0 : 0 < val b := by have := val_nonneg hb; omega
  have hA := val_nonneg ha
  have la' : (N (val a)).length ≤ a.length := by rw [← trim_N ha]; exact trim_len a
  have nb := bitsL_bd (N_wf (val a))
  have nl := bitsL_lt (N_wf (val a)) (N_trim hA)
  rw [N_val hA] at nl
  obtain ⟨n0, hn0⟩ := Int.eq_ofNat_of_zero_le nb.1
  rw [hn0] at nl nb ⊢
  rw [Int.toNat_natCast] at nl
  have z0 : val a / 2 ^ n0 = 0 := Int.ediv_eq_zero_of_lt hA nl
  refine T ?_
  refine w_loop (α := Nat × List Int) (fun p => [(.t 0, U a), (.t 1, U b), (.t 7, .hs 15 1 0 (n0 / 32 + 1) 1), (.t 8, rV n0 p.1 (val a / 2 ^ p.1 % val b)), (.t 9, .sc (.int .i64 ((p.1 : Int) - 1))), (.h 15, .blk 1 2 (p.2.map u32))])
    (fun p => p.1 ≤ n0 ∧ p.2.length = n0 / 32 + 1 ∧ Wf p.2 ∧ val p.2 = val a / 2 ^ p.1 / val b * 2 ^ p.1)
    (fun p => p.1) (n0, List.replicate (n0 / 32 + 1) 0) ⟨Nat.le_refl _, by simp, Wf.zeros _, by show val (List.replicate _ 0) = val a / 2 ^ n0 / val b * 2 ^ n0; rw [val_zeros, z0, Int.zero_ediv, Int.zero_mul]⟩ ?_ ?_
  · dsimp only [rV]
    rw [if_pos rfl]
    exact Hv
  rintro ⟨k, q⟩ r ⟨h1, h2, h3, h4⟩ J hJ
  simp only at h1 h2 h3 h4
  have H4 := Hd.mk h4
  clear h4
  rcases k with _ | k
  · have h4 := H4.out
    rw [Int.pow_zero, Int.ediv_one, Int.mul_one] at h4
    dsimp only [rV]
    rw [Int.pow_zero, Int.ediv_one]
    by_cases hz : 0 = n0
    · rw [if_pos hz]
      have za : val a = 0 := by
        rw [← hz, Int.pow_zero, Int.ediv_one] at z0
        exact z0
      refine T ?_
      refine call_eq (by rw [← h2]) (q_Trim q (by omega)) ?_
      refine T (r_ret ?_)
      refine R ?_
      rw [trim_N h3, h4, za]
      simp only [N_zero]
      exact Wk.tup (WkL.cons (Wk.refl _) (WkL.cons Wk.nil (WkL.refl _)))
    · rw [if_neg hz]
      refine T ?_
      refine call_eq (by rw [← h2]) (q_Trim q (by omega)) ?_
      refine TR ?_
      rw [trim_N h3, h4]
  · have hH : 0 ≤ val a / 2 ^ (k + 1) := Int.ediv_nonneg hA (Int.le_of_lt (Int.pow_pos (by decide)))
    have eH := half_pow (val a) k hA
    have db := divbit (e := val a / 2 ^ k % 2) hB0 hH (by omega)
    rw [← eH] at db
    have r0 := Int.emod_nonneg (val a / 2 ^ (k + 1)) (show val b ≠ 0 by omega)
    have r1 := Int.emod_lt_of_pos (val a / 2 ^ (k + 1)) hB0
    have hr0 : k + 1 = n0 → val a / 2 ^ (k + 1) % val b = 0 := fun h => by rw [h, z0, Int.zero_emod]
    have hkn : k ≠ n0 := by omega
    have room := limb_room q h3 (k / 32) (k % 32) (by omega) (Nat.mod_lt _ (by decide)) (val a / 2 ^ (k + 1) / val b) (by rw [H4.out, show 32 * (k / 32) + k % 32 + 1 = k + 1 by omega])
    have lo := limb_one (N := k)
    have wq := h3.at (k / 32)
    have lenb : b.length ≤ 900000000 := lb
    have finG : val b ≤ 2 * (val a / 2 ^ (k + 1) % val b) + val a / 2 ^ k % 2 → ∀ s', Has [(.t 0, U a), (.t 1, U b), (.t 7, .hs 15 1 0 (n0 / 32 + 1) 1), (.t 8, U (N (2 * (val a / 2 ^ (k + 1) % val b) + val a / 2 ^ k % 2 - val b))), (.t 9, .sc (.int .i64 ((k : Int) - 1))), (.h 15, .blk 1 2 ((q.set (k / 32) (q.getD (k / 32) 0 + 2 ^ (k % 32))).map u32))] s' → J s' := by
      intro hc s' hs'
      obtain ⟨d1, d2⟩ := db.1 hc
      refine hJ s' (k, q.set (k / 32) (q.getD (k / 32) 0 + 2 ^ (k % 32))) (by show k < k + 1; omega) ⟨by show k ≤ n0; omega, by simp [h2], Wf.set h3 _ (by omega) (by omega), ?_⟩ ?_
      · show val (q.set (k / 32) _) = val a / 2 ^ k / val b * 2 ^ k
        rw [val_set q (k / 32) _ (by omega), H4.out, d1, show q.getD (k / 32) 0 + 2 ^ (k % 32) - q.getD (k / 32) 0 = 2 ^ (k % 32) by omega, ← pow_parts k, Int.pow_succ]
        grind
      · dsimp only [rV]
        rw [if_neg hkn, d2]
        exact hs'
    have finL : ¬ val b ≤ 2 * (val a / 2 ^ (k + 1) % val b) + val a / 2 ^ k % 2 → ∀ s', Has [(.t 0, U a), (.t 1, U b), (.t 7, .hs 15 1 0 (n0 / 32 + 1) 1), (.t 8, U (N (2 * (val a / 2 ^ (k + 1) % val b) + val a / 2 ^ k % 2))), (.t 9, .sc (.int .i64 ((k : Int) - 1))), (.h 15, .blk 1 2 (q.map u32))] s' → J s' := by
      intro hc s' hs'
      obtain ⟨d1, d2⟩ := db.2 hc
      refine hJ s' (k, q) (by show k < k + 1; omega) ⟨by show k ≤ n0; omega, h2, h3, ?_⟩ ?_
      · show val q = val a / 2 ^ k / val b * 2 ^ k
        rw [H4.out, d1, Int.pow_succ]
        grind
      · dsimp only [rV]
        rw [if_neg hkn, d2]
        exact hs'
    clear db eH
    have e01 : val a / 2 ^ k % 2 = 0 ∨ val a / 2 ^ k % 2 = 1 := by omega
    have ebit := bitL_eq ha k
    have lR : (N (val a / 2 ^ (k + 1) % val b)).length ≤ b.length := (N_is r0).len (Int.lt_trans r1 (val_lt hb))
    generalize val a / 2 ^ k % 2 = e at *
    generalize val a / 2 ^ (k + 1) % val b = R at *
    have l2 : (N (2 * R)).length ≤ 1000000000 := by
      refine Nat.le_trans ((N_is (by omega)).len (n := b.length + 1) ?_) (by omega)
      rw [Int.pow_succ]
      have := val_lt hb
      omega
    have l3 : (N (2 * R + 1)).length ≤ 1000000000 := by
      refine Nat.le_trans ((N_is (by omega)).len (n := b.length + 1) ?_) (by omega)
      rw [Int.pow_succ]
      have := val_lt hb
      omega
    dsimp only [rV]
    have cast : ∀ h : k + 1 = n0, val [] * 2 ^ 1 = 2 * R := fun h => by rw [hr0 h]; rfl
    rcases e01 with he | he
    · subst he
      rw [decide_eq_false (by decide)] at ebit
      rw [Int.add_zero] at finG finL
      by_cases hc : val b ≤ 2 * R
      · have e3 := sgn_ge.2 hc
        by_cases hk : k + 1 = n0
        · have := hr0 hk
          omega
        · rw [if_neg hk]
          refine T (call_by (q_Shl (N R) 1 (N_wf _) (by omega) (by omega)) ?_)
          rw [N_val r0, Int.pow_one, Int.mul_comm]
          refine T (call_by (q_Bit a k ha (by omega) (by omega)) ?_)
          rw [ebit]
          refine T (call_by (q_Cmp (N (2 * R)) b (N_wf _) hb (by omega) (by omega)) ?_)
          rw [N_val (show 0 ≤ 2 * R by omega)]
          refine T (call_by (q_Minus (N (2 * R)) b (N_wf _) hb (by omega) (by omega) (by rw [N_val (show 0 ≤ 2 * R by omega)]; exact hc)) ?_)
          rw [N_val (show 0 ≤ 2 * R by omega)]
          refine T ?_
          refine finG hc _ (H ?_)
          rw [Int.one_mul]
      · have e3 : ¬ sgn (2 * R) (val b) ≥ 0 := fun h => hc (sgn_ge.1 h)
        by_cases hk : k + 1 = n0
        · rw [if_pos hk]
          refine T (call_wk (WkL.cons Wk.nil (WkL.refl _)) (q_Shl [] 1 Wf.nil (by simp) (by omega)) ?_)
          rw [cast hk]
          refine T (call_by (q_Bit a k ha (by omega) (by omega)) ?_)
          rw [ebit]
          refine T (call_by (q_Cmp (N (2 * R)) b (N_wf _) hb (by omega) (by omega)) ?_)
          rw [N_val (show 0 ≤ 2 * R by omega)]
          refine T ?_
          exact finL hc _ Hv
        · rw [if_neg hk]
          refine T (call_by (q_Shl (N R) 1 (N_wf _) (by omega) (by omega)) ?_)
          rw [N_val r0, Int.pow_one, Int.mul_comm]
          refine T (call_by (q_Bit a k ha (by omega) (by omega)) ?_)
          rw [ebit]
          refine T (call_by (q_Cmp (N (2 * R)) b (N_wf _) hb (by omega) (by omega)) ?_)
          rw [N_val (show 0 ≤ 2 * R by omega)]
          refine T ?_
          exact finL hc _ Hv
    · subst he
      rw [decide_eq_true (by decide)] at ebit
      by_cases hc : val b ≤ 2 * R + 1
      · have e3 := sgn_ge.2 hc
        by_cases hk : k + 1 = n0
        · rw [if_pos hk]
          refine T (call_wk (WkL.cons Wk.nil (WkL.refl _)) (q_Shl [] 1 Wf.nil (by simp) (by omega)) ?_)
          rw [cast hk]
          refine T (call_by (q_Bit a k ha (by omega) (by omega)) ?_)
          rw [ebit]
          refine T (call_by (q_Plus (N (2 * R)) [1] (N_wf _) (Wf.one (by decide) (by decide)) (by omega) (by decide)) ?_)
          rw [N_val (show 0 ≤ 2 * R by omega), val_one]
          refine T (call_by (q_Cmp (N (2 * R + 1)) b (N_wf _) hb (by omega) (by omega)) ?_)
          rw [N_val (show 0 ≤ 2 * R + 1 by omega)]
          refine T (call_by (q_Minus (N (2 * R + 1)) b (N_wf _) hb (by omega) (by omega) (by rw [N_val (show 0 ≤ 2 * R + 1 by omega)]; exact hc)) ?_)
          rw [N_val (show 0 ≤ 2 * R + 1 by omega)]
          refine T ?_
          refine finG hc _ (H ?_)
          rw [Int.one_mul]
        · rw [if_neg hk]
          refine T (call_by (q_Shl (N R) 1 (N_wf _) (by omega) (by omega)) ?_)
          rw [N_val r0, Int.pow_one, Int.mul_comm]
          refine T (call_by (q_Bit a k ha (by omega) (by omega)) ?_)
          rw [ebit]
          refine T (call_by (q_Plus (N (2 * R)) [1] (N_wf _) (Wf.one (by decide) (by decide)) (by omega) (by decide)) ?_)
          rw [N_val (show 0 ≤ 2 * R by omega), val_one]
          refine T (call_by (q_Cmp (N (2 * R + 1)) b (N_wf _) hb (by omega) (by omega)) ?_)
          rw [N_val (show 0 ≤ 2 * R + 1 by omega)]
          refine T (call_by (q_Minus (N (2 * R + 1)) b (N_wf _) hb (by omega) (by omega) (by rw [N_val (show 0 ≤ 2 * R + 1 by omega)]; exact hc)) ?_)
          rw [N_val (show 0 ≤ 2 * R + 1 by omega)]
          refine T ?_
          refine finG hc _ (H ?_)
          rw [Int.one_mul]
      · have e3 : ¬ sgn (2 * R + 1) (val b) ≥ 0 := fun h => hc (sgn_ge.1 h)
        by_cases hk : k + 1 = n0
        · rw [if_pos hk]
          refine T (call_wk (WkL.cons Wk.nil (WkL.refl _)) (q_Shl [] 1 Wf.nil (by simp) (by omega)) ?_)
          rw [cast hk]
          refine T (call_by (q_Bit a k ha (by omega) (by omega)) ?_)
          rw [ebit]
          refine T (call_by (q_Plus (N (2 * R)) [1] (N_wf _) (Wf.one (by decide) (by decide)) (by omega) (by decide)) ?_)
          rw [N_val (show 0 ≤ 2 * R by omega), val_one]
          refine T (call_by (q_Cmp (N (2 * R + 1)) b (N_wf _) hb (by omega) (by omega)) ?_)
          rw [N_val (show 0 ≤ 2 * R + 1 by omega)]
          refine T ?_
          exact finL hc _ Hv
        · rw [if_neg hk]
          refine T (call_by (q_Shl (N R) 1 (N_wf _) (by omega) (by omega)) ?_)
          rw [N_val r0, Int.pow_one, Int.mul_comm]
          refine T (call_by (q_Bit a k ha (by omega) (by omega)) ?_)
          rw [ebit]
          refine T (call_by (q_Plus (N (2 * R)) [1] (N_wf _) (Wf.one (by decide) (by decide)) (by omega) (by decide)) ?_)
          rw [N_val (show 0 ≤ 2 * R by omega), val_one]
          refine T (call_by (q_Cmp (N (2 * R + 1)) b (N_wf _) hb (by omega) (by omega)) ?_)
          rw [N_val (show 0 ≤ 2 * R + 1 by omega)]
          refine T ?_
          exact finL hc _ Hv
theorem q_Times (a b : List Int) (ha : Wf a) (hb : Wf b) (la : a.length ≤ 1000000000) (lb : b.length ≤ 1000000000) : Spec Try.prog 24 [U a, U b] (U (N (val a * val b))) := by
  refine spec_of_awp mixed Try.func24 rfl Try.call24 (by kernel_rfl) (by simp) rfl ?_
  refine T (call_by (q_Trim a (by omega)) ?_)
  refine T (call_by (q_Trim b (by omega)) ?_)
  have la' := trim_len a
  have lb' := trim_len b
  have ix := Is.of ha rfl
  have iy := Is.of hb rfl
  generalize trim a = x at *
  generalize trim b = y at *
  have hx := ix.wf
  have hy := iy.wf
  refine T ?_
  refine w_loop (α := Nat × List Int) (fun p => [(.t 5, U x), (.t 6, U y), (.t 7, .hs 21 1 0 (x.length + y.length + 1) 1), (.t 8, .sc (.int .i64 p.1)), (.h 21, .blk 1 2 (p.2.map u32))])
    (fun p => p.1 ≤ x.length ∧ p.2.length = x.length + y.length + 1 ∧ Wf p.2 ∧ (∀ k, p.1 + y.length ≤ k → p.2.getD k 0 = 0) ∧ val (p.2.take (p.1 + y.length)) = val (x.take p.1) * val y)
    (fun p => x.length - p.1) (0, List.replicate (x.length + y.length + 1) 0) ⟨Nat.zero_le _, by simp, Wf.zeros _, fun k _ => by simp [List.getD_eq_getElem?_getD, List.getElem?_replicate]; split <;> rfl, by simp [val, List.take_replicate, val_zeros]⟩ ?_ ?_
  · exact Hv
  rintro ⟨i, o⟩ r ⟨h1, h2, h3, h4, h5⟩ J hJ
  simp only at h1 h2 h3 h4 h5
  have H5 := Hd.mk h5
  clear h5
  by_cases hi : i < x.length
  · have hai := hx.at i
    refine T ?_
    refine w_loop (α := Nat × Int × List Int) (fun p => [(.t 5, U x), (.t 6, U y), (.t 7, .hs 21 1 0 (x.length + y.length + 1) 1), (.t 8, .sc (.int .i64 i)), (.t 9, .sc (.int .u64 p.2.1)), (.t 10, .sc (.int .i64 p.1)), (.h 21, .blk 1 2 (p.2.2.map u32))])
      (fun p => p.1 ≤ y.length ∧ p.2.2.length = x.length + y.length + 1 ∧ Wf p.2.2 ∧ 0 ≤ p.2.1 ∧ p.2.1 < 4294967296 ∧ p.2.2.drop (i + p.1) = o.drop (i + p.1) ∧
        val (p.2.2.take (i + p.1)) + 4294967296 ^ i * 4294967296 ^ p.1 * p.2.1 = val (o.take (i + p.1)) + 4294967296 ^ i * x.getD i 0 * val (y.take p.1))
      (fun p => y.length - p.1) (0, 0, o) ⟨Nat.zero_le _, h2, h3, Int.le_refl 0, (by decide : (0 : Int) < 4294967296), rfl, by simp [val]⟩ ?_ ?_
    · exact Hv
    rintro ⟨j, c, q⟩ r ⟨g1, g2, g3, g4, g5, g6, g7⟩ J2 hJ2
    simp only at g1 g2 g3 g4 g5 g6 g7
    have G7 := Hd.mk g7
    clear g7
    by_cases hj : j < y.length
    · have hyj := hy.at j
      have hq := g3.at (i + j)
      have hm := mul_bd hai hyj
      have fin : ∀ s c2 : Int, s + 4294967296 * c2 = x.getD i 0 * y.getD j 0 + q.getD (i + j) 0 + c →
          val ((q.set (i + j) s).take (i + (j + 1))) + 4294967296 ^ i * 4294967296 ^ (j + 1) * c2 = val (o.take (i + (j + 1))) + 4294967296 ^ i * x.getD i 0 * val (y.take (j + 1)) := by
        intro s c2 e
        have hqo : o.getD (i + j) 0 = q.getD (i + j) 0 := by
          have := congrArg (fun l => l.getD 0 0) g6
          simpa [List.getD_eq_getElem?_getD, List.getElem?_drop] using this.symm
        rw [show i + (j + 1) = i + j + 1 from rfl, val_take_set (by omega), val_take_at o, val_take_at y, hqo, pow_snoc, Int.pow_add]
        exact mul_step G7.out e
      refine T ?_
      refine hJ2 _ (j + 1, (c + (q.getD (i + j) 0 + x.getD i 0 * y.getD j 0)) / 4294967296, q.set (i + j) ((c + (q.getD (i + j) 0 + x.getD i 0 * y.getD j 0)) % 4294967296)) ?_ ⟨hj, by simp [g2], g3.set _ (by omega) (by omega), ?_, ?_, ?_, fin ((c + (q.getD (i + j) 0 + x.getD i 0 * y.getD j 0)) % 4294967296) ((c + (q.getD (i + j) 0 + x.getD i 0 * y.getD j 0)) / 4294967296) (by omega)⟩ ?_
      · show y.length - (j + 1) < y.length - j; omega
      · show 0 ≤ _ / _; omega
      · show _ / _ < (4294967296 : Int); omega
      · show (q.set (i + j) _).drop (i + j + 1) = o.drop (i + j + 1)
        rw [drop_set_lt (by omega), ← List.drop_drop, g6, List.drop_drop]
      · exact Hv
    · have hj' : j = y.length := by omega
      subst hj'
      refine T ?_
      refine hJ _ (i + 1, q.set (i + y.length) c) ?_ ⟨hi, by simp [g2], g3.set _ g4 g5, ?_, ?_⟩ ?_
      · show x.length - (i + 1) < x.length - i; omega
      · intro k hk
        simp only at hk
        have e := congrArg (fun l => l.getD (k - (i + y.length)) 0) g6
        simp only [List.getD_eq_getElem?_getD, List.getElem?_drop, show i + y.length + (k - (i + y.length)) = k by omega] at e
        simp only [List.getD_eq_getElem?_getD]
        rw [List.getElem?_set_ne (by omega), e]
        simpa [List.getD_eq_getElem?_getD] using h4 k (by omega)
      · have G := G7.out
        rw [List.take_length] at G
        show val ((q.set (i + y.length) c).take (i + 1 + y.length)) = val (x.take (i + 1)) * val y
        rw [show i + 1 + y.length = i + y.length + 1 by omega, val_take_set (by omega), Int.pow_add, G, val_take_at x, H5.out]
        grind
      · exact Hv
  · have hi' : i = x.length := by omega
    subst hi'
    have h5 := H5.out
    have el : val o = val (o.take (x.length + y.length)) := by
      have := val_take_at o (x.length + y.length)
      rw [List.take_of_length_le (by omega), h4 _ (Nat.le_refl _)] at this
      omega
    rw [← el, List.take_length, ix.val, iy.val] at h5
    refine T ?_
    refine call_eq (by rw [← h2]) (q_Trim o (by omega)) ?_
    refine TR ?_
    rw [trim_N h3, h5]
theorem q_Form (l : List Int) (hl : l.length ≤ 4611686018427387904) : Spec Try.prog 39 [U l] (.sc (.bool (natB l))) := by
  refine spec_of_awp mixed Try.func39 rfl Try.call39 (by kernel_rfl) (by simp) rfl ?_
  by_cases h1 : l.length ≤ 16
  · by_cases h2 : l.length = 0
    · refine TR ?_
      have : l = [] := List.eq_nil_of_length_eq_zero h2
      subst this
      rfl
    · obtain ⟨n, hn⟩ : ∃ n, l.length = n + 1 := ⟨l.length - 1, by omega⟩
      have hi : ((l.length : Int) - 1).toNat = n := by omega
      by_cases h3 : l.getD ((l.length : Int) - 1).toNat 0 = 0
      · refine TR ?_
        rw [natB, decide_eq_false]
        rintro ⟨_, h4⟩
        have := (nm_iff h2).1 h4
        rw [hi] at h3
        rw [show l.length - 1 = n by omega] at this
        exact this h3
      · refine TR ?_
        rw [natB, decide_eq_true]
        refine ⟨h1, (nm_iff h2).2 ?_⟩
        rw [hi] at h3
        rwa [show l.length - 1 = n by omega]
  · refine TR ?_
    rw [natB, decide_eq_false]
    exact fun h => h1 h.1
theorem take_ext {a b : List Int} {i : Nat} (h : a.take i = b.take i) (ha : i < a.length) (hb : i < b.length) (e : a.getD i 0 = b.getD i 0) : a.take (i + 1) = b.take (i + 1) := by
  rw [take_at ha, take_at hb, h, e]
theorem q_Same1 (a b : List Int) (la : a.length ≤ 4611686018427387904) (lb : b.length ≤ 4611686018427387904) : Spec Try.prog 25 [U a, U b] (.sc (.bool (decide (a = b)))) := by
  refine spec_of_awp mixed Try.func25 rfl Try.call25 (by kernel_rfl) (by simp) rfl ?_
  by_cases h : a.length = b.length
  · refine T ?_
    refine w_loop (α := Nat) (fun i => [(.t 0, U a), (.t 1, U b), (.t 5, .sc (.int .i64 i))]) (fun i => i ≤ a.length ∧ a.take i = b.take i) (fun i => a.length - i) 0 ⟨Nat.zero_le _, rfl⟩ ?_ ?_
    · exact Hv
    rintro i r ⟨h1, h2⟩ J hJ
    by_cases h3 : i < a.length
    · by_cases h4 : a.getD i 0 = b.getD i 0
      · refine T ?_
        exact hJ _ (i + 1) (by omega) ⟨by omega, take_ext h2 h3 (by omega) h4⟩ Hv
      · refine TR ?_
        rw [decide_eq_false]
        rintro rfl
        exact h4 rfl
    · refine TR ?_
      rw [List.take_of_length_le (by omega), List.take_of_length_le (by omega)] at h2
      rw [h2, decide_eq_true rfl]
  · refine TR ?_
    rw [decide_eq_false]
    rintro rfl
    exact h rfl
theorem q_Equal (a b : List Int) (la : a.length ≤ 4611686018427387904) (lb : b.length ≤ 4611686018427387904) : Spec Try.prog 98 [U a, U b] (.sc (.bool (decide (a = b)))) := by
  refine spec_of_awp mixed Try.func98 rfl Try.call98 (by kernel_rfl) (by simp) rfl ?_
  by_cases h : a.length = b.length
  · refine T ?_
    refine w_loop (α := Nat) (fun i => [(.t 0, U a), (.t 1, U b), (.t 12, .sc (.int .i64 a.length)), (.t 13, .sc (.int .i64 i))]) (fun i => i ≤ a.length ∧ a.take i = b.take i) (fun i => a.length - i) 0 ⟨Nat.zero_le _, rfl⟩ ?_ ?_
    · exact Hv
    rintro i r ⟨h1, h2⟩ J hJ
    by_cases h3 : i < a.length
    · by_cases h4 : a.getD i 0 = b.getD i 0
      · refine T ?_
        exact hJ _ (i + 1) (by omega) ⟨by omega, take_ext h2 h3 (by omega) h4⟩ Hv
      · refine TR ?_
        rw [decide_eq_false]
        rintro rfl
        exact h4 rfl
    · refine TR ?_
      rw [List.take_of_length_le (by omega), List.take_of_length_le (by omega)] at h2
      rw [h2, decide_eq_true rfl]
  · refine TR ?_
    rw [decide_eq_false]
    rintro rfl
    exact h rfl
def mulR (p q : RT) : RT × Int := mkR (p.1 != q.1) (val p.2.1 * val q.2.1) (val p.2.2 * val q.2.2)
def divR (p q : RT) : RT × Int := if q.2.1.length = 0 then ((false, [], []), 10) else mkR (p.1 != q.1) (val p.2.1 * val q.2.2) (val p.2.2 * val q.2.1)
def ifF (p q : RT) (r : RT × Int) : RT × Int := if (formR p && formR q) = true then r else ((false, [], []), 20)
theorem ff {p q : RT} (h : (formR p && formR q) = true) : formR p = true ∧ formR q = true := by simpa using h
theorem form_len {p : RT} (h : formR p = true) : p.2.1.length ≤ 16 ∧ p.2.2.length ≤ 16 ∧ p.2.2.length ≠ 0 ∧ trim p.2.1 = p.2.1 ∧ trim p.2.2 = p.2.2 ∧ (p.1 = true → p.2.1.length ≠ 0) ∧ Int.gcd (val p.2.1) (val p.2.2) = 1 := by
  have h := of_decide_eq_true h
  have h1 := of_decide_eq_true h.1
  have h2 := of_decide_eq_true h.2.1
  exact ⟨h1.1, h2.1, h.2.2.1, h1.2, h2.2, h.2.2.2.1, h.2.2.2.2⟩
theorem all_two (p q : RT) : [p, q].all formR = (formR p && formR q) := by simp
theorem s_rMul (p q : RT) (hp : RW p) (hq : RW q) : Spec Try.prog 62 [RA p.1 p.2.1 p.2.2, RA q.1 q.2.1 q.2.2] (resR (ifF p q (mulR p q))) := by
  refine spec_of_awp mixed Try.func62 rfl Try.call62 (by kernel_rfl) (by simp) rfl ?_
  refine T (call_by (s_forms [p, q] (by simp) (by simp [hp, hq])) ?_)
  rw [all_two, ifF]
  cases hf : (formR p && formR q) with
  | false =>
    refine T ?_
    refine T (r_ret ?_)
    exact R (wk_zero _)
  | true =>
    obtain ⟨a1, a2, _⟩ := form_len (ff hf).1
    obtain ⟨b1, b2, _⟩ := form_len (ff hf).2
    rw [if_pos rfl]
    refine T (call_by (s_mul p.1 q.1 p.2.1 p.2.2 q.2.1 q.2.2 hp.wn hp.wd hq.wn hq.wd a1 a2 b1 b2) ?_)
    exact TR rfl
theorem s_rDiv (p q : RT) (hp : RW p) (hq : RW q) : Spec Try.prog 64 [RA p.1 p.2.1 p.2.2, RA q.1 q.2.1 q.2.2] (resR (ifF p q (divR p q))) := by
  refine spec_of_awp mixed Try.func64 rfl Try.call64 (by kernel_rfl) (by simp) rfl ?_
  refine T (call_by (s_forms [p, q] (by simp) (by simp [hp, hq])) ?_)
  rw [all_two, ifF]
  cases hf : (formR p && formR q) with
  | false =>
    refine T ?_
    refine T (r_ret ?_)
    exact R (wk_zero _)
  | true =>
    obtain ⟨a1, a2, _⟩ := form_len (ff hf).1
    obtain ⟨b1, b2, _⟩ := form_len (ff hf).2
    rw [if_pos rfl, divR]
    by_cases h : q.2.1.length = 0
    · rw [if_pos h]
      refine T ?_
      refine T (r_ret ?_)
      exact R (wk_zero _)
    · rw [if_neg h]
      have m1 := N_mul_len hp.wn hq.wd
      have m2 := N_mul_len hp.wd hq.wn
      have p1 := Int.mul_nonneg (val_nonneg hp.wn) (val_nonneg hq.wd)
      have p2 := Int.mul_nonneg (val_nonneg hp.wd) (val_nonneg hq.wn)
      refine T (dcall_by (s_Mul p.2.1 q.2.2 hp.wn hq.wd (by omega) (by omega)) ?_)
      refine T (dcall_by (s_Mul p.2.2 q.2.1 hp.wd hq.wn (by omega) (by omega)) ?_)
      refine T (dcall_by (s_Make (p.1 != q.1) (N (val p.2.1 * val q.2.2)) (N (val p.2.2 * val q.2.1)) (N_wf _) (N_wf _) (by omega) (by omega)) ?_)
      rw [N_val p1, N_val p2]
      exact TR rfl
theorem q2_Form (b : Bool) (n d : List Int) (hn : Wf n) (hd : Wf d) (ln : n.length ≤ 4611686018427387904) (ld : d.length ≤ 4611686018427387904) : Spec Try.prog 52 [RA b n d] (.sc (.bool (formB b n d))) := by
  refine spec_of_awp mixed Try.func52 rfl Try.call52 (by kernel_rfl) (by simp) rfl ?_
  refine T (call_by (q_Form n ln) ?_)
  cases h1 : natB n with
  | false =>
    refine TR ?_
    rw [formB, decide_eq_false]
    rintro ⟨h, _⟩
    rw [h1] at h; cases h
  | true =>
    refine T (call_by (q_Form d ld) ?_)
    cases h2 : natB d with
    | false =>
      refine TR ?_
      rw [formB, decide_eq_false]
      rintro ⟨_, h, _⟩
      rw [h2] at h; cases h
    | true =>
      have k1 : n.length ≤ 16 := (of_decide_eq_true h1).1
      have k2 : d.length ≤ 16 := (of_decide_eq_true h2).1
      by_cases h3 : d.length = 0
      · refine TR ?_
        rw [formB, decide_eq_false]
        rintro ⟨_, _, h, _⟩
        exact h h3
      · have vd := val_ne hd (of_decide_eq_true h2).2 h3
        have gl := gcd_len (n := n) hd vd
        cases b with
        | true =>
          by_cases h4 : n.length = 0
          · refine TR ?_
            rw [formB, decide_eq_false]
            rintro ⟨_, _, _, h, _⟩
            exact h rfl h4
          · refine T (call_by (q_Common n d hn hd (by omega) (by omega)) ?_)
            refine T (call_by (q_Same1 (N (Int.gcd (val n) (val d) : Nat)) [1] (by omega) (by decide)) ?_)
            refine TR ?_
            have e : decide (N (Int.gcd (val n) (val d) : Nat) = [1]) = formB true n d := by
              rw [formB]
              apply decide_eq_decide.2
              rw [N_eq_one (Int.natCast_nonneg _)]
              simp [h1, h2, h3, h4]
              omega
            rw [e]
        | false =>
          refine T (call_by (q_Common n d hn hd (by omega) (by omega)) ?_)
          refine T (call_by (q_Same1 (N (Int.gcd (val n) (val d) : Nat)) [1] (by omega) (by decide)) ?_)
          refine TR ?_
          have e : decide (N (Int.gcd (val n) (val d) : Nat) = [1]) = formB false n d := by
            rw [formB]
            apply decide_eq_decide.2
            rw [N_eq_one (Int.natCast_nonneg _)]
            simp [h1, h2, h3]
            omega
          rw [e]
theorem q2_Make (b : Bool) (n d : List Int) (hn : Wf n) (hd : Wf d) (ln : n.length ≤ 900000000) (ld : d.length ≤ 900000000) : Spec Try.prog 49 [.sc (.bool b), U n, U d] (resR (mkR b (val n) (val d))) := by
  refine spec_of_awp mixed Try.func49 rfl Try.call49 (by kernel_rfl) (by simp) rfl ?_
  refine T (call_by (q_Trim n (by omega)) ?_)
  refine T (call_by (q_Trim d (by omega)) ?_)
  have ln' := trim_len n
  have ld' := trim_len d
  rw [trim_N hn] at *
  rw [trim_N hd] at *
  have u0 := val_nonneg hn
  have v0 := val_nonneg hd
  generalize val n = u at *
  generalize val d = v at *
  by_cases hv : v = 0
  · subst hv
    rw [N_zero]
    refine T (r_ret ?_)
    refine R ?_
    rw [mkR, if_pos rfl]
    exact wk_zero _
  have vp := N_pos (show 0 < v by omega)
  by_cases hu : u = 0
  · subst hu
    rw [N_zero]
    refine T (r_ret ?_)
    refine R ?_
    rw [mkR, if_neg hv, if_pos rfl]
    exact Wk.tup (WkL.cons (Wk.agg (WkL.cons (Wk.refl _) (WkL.cons Wk.nil (WkL.refl _)))) (WkL.refl _))
  have up := N_pos (show 0 < u by omega)
  refine T (call_by (q_Common (N u) (N v) (N_wf u) (N_wf v) (by omega) (by omega)) ?_)
  rw [N_val u0, N_val v0]
  have g0 : (0 : Int) ≤ (Int.gcd u v : Nat) := Int.natCast_nonneg _
  have gv : ((Int.gcd u v : Nat) : Int) ≤ v := by
    have := Nat.gcd_le_right u.natAbs (show 0 < v.natAbs by omega)
    show ((Nat.gcd u.natAbs v.natAbs : Nat) : Int) ≤ _
    omega
  have gp : (0 : Int) < (Int.gcd u v : Nat) := by
    have := Nat.gcd_pos_of_pos_right u.natAbs (show 0 < v.natAbs by omega)
    show (0 : Int) < ((Nat.gcd u.natAbs v.natAbs : Nat) : Int)
    omega
  have gl := N_len g0 gv
  have e : mkR b u v = if (N (u / (Int.gcd u v : Nat))).length ≤ 16 ∧ (N (v / (Int.gcd u v : Nat))).length ≤ 16 then ((b, N (u / (Int.gcd u v : Nat)), N (v / (Int.gcd u v : Nat))), 0) else ((false, [], []), 4) := by rw [mkR, if_neg hv, if_neg hu]
  rw [e]
  clear e
  generalize ((Int.gcd u v : Nat) : Int) = g at *
  refine T (call_by (q_Divide (N u) (N g) (N_wf u) (N_wf g) (by omega) (by omega) (by rw [N_val g0]; omega)) ?_)
  rw [N_val u0, N_val g0]
  refine T (call_by (q_Divide (N v) (N g) (N_wf v) (N_wf g) (by omega) (by omega) (by rw [N_val g0]; omega)) ?_)
  rw [N_val v0, N_val g0]
  by_cases k1 : (N (u / g)).length ≤ 16
  · by_cases k2 : (N (v / g)).length ≤ 16
    · rw [if_pos ⟨k1, k2⟩]
      exact TR rfl
    · rw [if_neg (fun h => k2 h.2)]
      refine T (r_ret ?_)
      exact R (wk_zero _)
  · rw [if_neg (fun h => k1 h.1)]
    refine T (r_ret ?_)
    exact R (wk_zero _)
theorem q2_Mul (p q : RT) (hp : RW p) (hq : RW q) : Spec Try.prog 63 [RA p.1 p.2.1 p.2.2, RA q.1 q.2.1 q.2.2] (resR (ifF p q (mulR p q))) := by
  refine spec_of_awp mixed Try.func63 rfl Try.call63 (by kernel_rfl) (by simp) rfl ?_
  refine T (call_by (q2_Form p.1 p.2.1 p.2.2 hp.wn hp.wd hp.ln hp.ld) ?_)
  rw [show formB p.1 p.2.1 p.2.2 = formR p from rfl]
  by_cases h1 : formR p = true
  · rw [h1]
    refine T (call_by (q2_Form q.1 q.2.1 q.2.2 hq.wn hq.wd hq.ln hq.ld) ?_)
    rw [show formB q.1 q.2.1 q.2.2 = formR q from rfl]
    by_cases h2 : formR q = true
    · rw [h2]
      have ef : ifF p q (mulR p q) = mulR p q := if_pos (by rw [h1, h2]; rfl)
      obtain ⟨a1, a2, _⟩ := form_len h1
      obtain ⟨b1, b2, _⟩ := form_len h2
      have m1 := N_mul_len hp.wn hq.wn
      have m2 := N_mul_len hp.wd hq.wd
      have p1 := Int.mul_nonneg (val_nonneg hp.wn) (val_nonneg hq.wn)
      have p2 := Int.mul_nonneg (val_nonneg hp.wd) (val_nonneg hq.wd)
      rw [ef, mulR]
      refine T (dcall_by (q_Times p.2.1 q.2.1 hp.wn hq.wn (by omega) (by omega)) ?_)
      refine T (dcall_by (q_Times p.2.2 q.2.2 hp.wd hq.wd (by omega) (by omega)) ?_)
      refine T (dcall_by (q2_Make (p.1 != q.1) (N (val p.2.1 * val q.2.1)) (N (val p.2.2 * val q.2.2)) (N_wf _) (N_wf _) (by omega) (by omega)) ?_)
      rw [N_val p1, N_val p2]
      exact TR rfl
    · rw [Bool.eq_false_iff.2 h2]
      have ef : ifF p q (mulR p q) = ((false, [], []), 20) := if_neg (by simp [h2])
      refine T (r_ret ?_)
      rw [ef]
      exact R (wk_zero _)
  · rw [Bool.eq_false_iff.2 h1]
    have ef : ifF p q (mulR p q) = ((false, [], []), 20) := if_neg (by simp [h1])
    refine T (r_ret ?_)
    rw [ef]
    exact R (wk_zero _)
theorem q2_Div (p q : RT) (hp : RW p) (hq : RW q) : Spec Try.prog 65 [RA p.1 p.2.1 p.2.2, RA q.1 q.2.1 q.2.2] (resR (ifF p q (divR p q))) := by
  refine spec_of_awp mixed Try.func65 rfl Try.call65 (by kernel_rfl) (by simp) rfl ?_
  refine T (call_by (q2_Form p.1 p.2.1 p.2.2 hp.wn hp.wd hp.ln hp.ld) ?_)
  rw [show formB p.1 p.2.1 p.2.2 = formR p from rfl]
  by_cases h1 : formR p = true
  · rw [h1]
    refine T (call_by (q2_Form q.1 q.2.1 q.2.2 hq.wn hq.wd hq.ln hq.ld) ?_)
    rw [show formB q.1 q.2.1 q.2.2 = formR q from rfl]
    by_cases h2 : formR q = true
    · rw [h2]
      have ef : ifF p q (divR p q) = divR p q := if_pos (by rw [h1, h2]; rfl)
      obtain ⟨a1, a2, _⟩ := form_len h1
      obtain ⟨b1, b2, _⟩ := form_len h2
      rw [ef, divR]
      by_cases h : q.2.1.length = 0
      · rw [if_pos h]
        refine T (r_ret ?_)
        exact R (wk_zero _)
      · rw [if_neg h]
        have m1 := N_mul_len hp.wn hq.wd
        have m2 := N_mul_len hp.wd hq.wn
        have p1 := Int.mul_nonneg (val_nonneg hp.wn) (val_nonneg hq.wd)
        have p2 := Int.mul_nonneg (val_nonneg hp.wd) (val_nonneg hq.wn)
        refine T (dcall_by (q_Times p.2.1 q.2.2 hp.wn hq.wd (by omega) (by omega)) ?_)
        refine T (dcall_by (q_Times p.2.2 q.2.1 hp.wd hq.wn (by omega) (by omega)) ?_)
        refine T (dcall_by (q2_Make (p.1 != q.1) (N (val p.2.1 * val q.2.2)) (N (val p.2.2 * val q.2.1)) (N_wf _) (N_wf _) (by omega) (by omega)) ?_)
        rw [N_val p1, N_val p2]
        exact TR rfl
    · rw [Bool.eq_false_iff.2 h2]
      have ef : ifF p q (divR p q) = ((false, [], []), 20) := if_neg (by simp [h2])
      refine T (r_ret ?_)
      rw [ef]
      exact R (wk_zero _)
  · rw [Bool.eq_false_iff.2 h1]
    have ef : ifF p q (divR p q) = ((false, [], []), 20) := if_neg (by simp [h1])
    refine T (r_ret ?_)
    rw [ef]
    exact R (wk_zero _)
theorem q2_Same (p q : RT) (hp : p.2.1.length ≤ 4611686018427387904 ∧ p.2.2.length ≤ 4611686018427387904) (hq : q.2.1.length ≤ 4611686018427387904 ∧ q.2.2.length ≤ 4611686018427387904) : Spec Try.prog 54 [RA p.1 p.2.1 p.2.2, RA q.1 q.2.1 q.2.2] (.sc (.bool (decide (p = q)))) := by
  refine spec_of_awp mixed Try.func54 rfl Try.call54 (by kernel_rfl) (by simp) rfl ?_
  obtain ⟨b1, n1, d1⟩ := p
  obtain ⟨b2, n2, d2⟩ := q
  simp only at hp hq ⊢
  have eb : (b1 == b2) = decide (b1 = b2) := by cases b1 <;> cases b2 <;> rfl
  by_cases h1 : b1 = b2
  · subst h1
    refine T (call_by (q_Same1 n1 n2 hp.1 hq.1) ?_)
    by_cases h2 : n1 = n2
    · rw [decide_eq_true h2]
      refine T (call_by (q_Same1 d1 d2 hp.2 hq.2) ?_)
      refine TR ?_
      rw [show decide (d1 = d2) = decide (((b1, n1, d1) : RT) = (b1, n2, d2)) from decide_eq_decide.2 (by rw [h2]; simp)]
    · rw [decide_eq_false h2]
      refine TR ?_
      rw [decide_eq_false]
      intro h; cases h; exact h2 rfl
  · have e1 : (b1 == b2) = false := by rw [eb, decide_eq_false h1]
    refine T ?_
    rw [e1]
    refine TR ?_
    rw [decide_eq_false]
    intro h; cases h; exact h1 rfl
theorem q2_Copy (p : RT) (hp : p.2.1.length ≤ 35184372088832 ∧ p.2.2.length ≤ 35184372088832) : Spec Try.prog 97 [RA p.1 p.2.1 p.2.2] (RA p.1 p.2.1 p.2.2) := by
  refine spec_of_awp mixed Try.func97 rfl Try.call97 (by kernel_rfl) (by simp) rfl ?_
  obtain ⟨b, n, d⟩ := p
  simp only at hp ⊢
  obtain ⟨l1, l2⟩ := hp
  by_cases h1 : n.length = 0
  · by_cases h2 : d.length = 0
    · refine TR ?_
      rw [List.eq_nil_of_length_eq_zero h1, List.eq_nil_of_length_eq_zero h2]
      rfl
    · refine TR ?_
      rw [List.eq_nil_of_length_eq_zero h1]
      rfl
  · by_cases h2 : d.length = 0
    · refine TR ?_
      rw [List.eq_nil_of_length_eq_zero h2]
      rfl
    · exact TR rfl
theorem q2_own (p : RT) (hp : p.2.1.length ≤ 35184372088832 ∧ p.2.2.length ≤ 35184372088832) : Spec Try.prog 51 [RA p.1 p.2.1 p.2.2] (RA p.1 p.2.1 p.2.2) := by
  refine spec_of_awp mixed Try.func51 rfl Try.call51 (by kernel_rfl) (by simp) rfl ?_
  refine T (call_by (q2_Copy p hp) ?_)
  exact TR rfl
end Go.Ab
end
