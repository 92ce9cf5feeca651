import Derived.Test.YtiamjfckgmnijaaGreatDoorFnI
set_option linter.all false
section
namespace Go.Ab
open Go Go.Proofs Go.Proofs.YtiamjfckgmnijaaGreatDoor.Pl
set_option maxRecDepth 100000
set_option maxHeartbeats 8000000
theorem kn_guess {Uv Vv W X M v1 v2 top u2 q : Int} (K : Kn Uv Vv W X M v1 v2 top u2 q) : q ≤ top / v1 := by
  have hq := K.hq
  have hlo := K.lo
  refine Int.le_ediv_of_mul_le (by have := K.bv1; omega) ?_
  have c : q * Vv = q * W + q * (v1 * 4294967296 + v2) * M := by rw [K.hV]; grind
  have d : 0 ≤ q * W := Int.mul_nonneg hq.1 K.hW.1
  have f := K.hU
  have g1 := K.hX
  have hM := K.hM
  have h2 : q * (v1 * 4294967296 + v2) * M < (top * 4294967296 + u2 + 1) * M := by
    have : (top * 4294967296 + u2 + 1) * M = (top * 4294967296 + u2) * M + M := by grind
    omega
  have h3 := Int.lt_of_mul_lt_mul_right h2 (Int.le_of_lt hM)
  have e : q * (v1 * 4294967296 + v2) = q * v1 * 4294967296 + q * v2 := by grind
  have h5 : 0 ≤ q * v2 := Int.mul_nonneg hq.1 K.bv2.1
  have h6 := K.bu2
  rw [e] at h3
  clear h2 c f hlo
  omega
theorem kn_less {Uv Vv W X M v1 v2 top u2 q g r : Int} (K : Kn Uv Vv W X M v1 v2 top u2 q) (hgr : Hd (g * v1 + r = top)) (hr : 0 ≤ r ∧ r < 4294967296) (hqg : q < g) :
    Hd ((g - 1) * v1 + (r + v1) = top) ∧ (4294967296 ≤ r + v1 → g - 1 < 4294967296 ∧ g - 1 ≤ q + 1) := by
  have hv1 := K.bv1
  have hv2 := K.bv2
  have hu2 := K.bu2
  have ht := K.btop
  have hq := K.hq
  have hgr' := hgr.out
  have hg1 : (g - 1) * v1 + (r + v1) = top := by rw [← hgr']; grind
  refine ⟨⟨hg1⟩, fun c => ?_⟩
  have hlt : g - 1 < 4294967296 := by
    rcases Int.lt_or_le (g - 1) 4294967296 with h5 | h5
    · exact h5
    · have : 4294967296 * v1 ≤ (g - 1) * v1 := Int.mul_le_mul_of_nonneg_right h5 (by omega)
      omega
  have hg0 : 0 ≤ g - 1 ∧ g - 1 < 4294967296 := by omega
  refine ⟨hlt, K.near hg0 ?_⟩
  have hb : (g - 1) * v2 ≤ 18446744065119617025 := (mul_bd hg0 hv2).2
  have e : (g - 1) * (v1 * 4294967296 + v2) = (g - 1) * v1 * 4294967296 + (g - 1) * v2 := by grind
  rw [e]
  generalize (g - 1) * v1 = p at *
  generalize (g - 1) * v2 = p2 at *
  omega
theorem kn_stay {Uv Vv W X M v1 v2 top u2 q g r : Int} (K : Kn Uv Vv W X M v1 v2 top u2 q) (hgr : Hd (g * v1 + r = top)) (hg : 0 ≤ g ∧ g < 4294967296) (t : ¬ r * 4294967296 + u2 < g * v2) : g ≤ q + 1 := by
  refine K.near hg ?_
  have hgr' := hgr.out
  have e : g * (v1 * 4294967296 + v2) = g * v1 * 4294967296 + g * v2 := by grind
  rw [e]
  generalize g * v1 = p at *
  generalize g * v2 = p2 at *
  omega
theorem dstep {o v g c b : Int} (ho : 0 ≤ o ∧ o < 4294967296) (hv : 0 ≤ v ∧ v < 4294967296) (hg : 0 ≤ g ∧ g < 4294967296) (hc : 0 ≤ c ∧ c < 4294967296) (hb : 0 ≤ b ∧ b ≤ 1) :
    ∃ t, Hd (((o - (g * v + c) % 4294967296) % 18446744073709551616 - b) % 18446744073709551616 = t) ∧ (0 ≤ t % 4294967296 ∧ t % 4294967296 < 4294967296) ∧ (0 ≤ (g * v + c) / 4294967296 ∧ (g * v + c) / 4294967296 < 4294967296) ∧ (0 ≤ t / 9223372036854775808 ∧ t / 9223372036854775808 ≤ 1) ∧
      Hd (t % 4294967296 + g * v + c + b = o + 4294967296 * ((g * v + c) / 4294967296 + t / 9223372036854775808)) := by
  have hgv := mul_bd hg hv
  generalize g * v = m at *
  exact ⟨_, ⟨rfl⟩, by omega, by omega, by omega, ⟨by omega⟩⟩
theorem dlast {o c b : Int} (ho : 0 ≤ o ∧ o < 4294967296) (hc : 0 ≤ c ∧ c < 4294967296) (hb : 0 ≤ b ∧ b ≤ 1) :
    ∃ t, Hd (((o - c) % 18446744073709551616 - b) % 18446744073709551616 = t) ∧ (0 ≤ t % 4294967296 ∧ t % 4294967296 < 4294967296) ∧ (0 ≤ t / 9223372036854775808 ∧ t / 9223372036854775808 ≤ 1) ∧ Hd (t % 4294967296 + c + b = o + 4294967296 * (t / 9223372036854775808)) :=
  ⟨_, ⟨rfl⟩, by omega, by omega, ⟨by omega⟩⟩
theorem dmid_eq {PT VT OT Q g o v s b2 c2 c b : Int} (h1 : PT + g * VT = OT + Q * (c + b)) (h2 : s + g * v + c + b = o + 4294967296 * (c2 + b2)) : PT + Q * s + g * (VT + Q * v) = OT + Q * o + Q * 4294967296 * (c2 + b2) := by
  have : Q * (s + g * v + c + b) = Q * (o + 4294967296 * (c2 + b2)) := by rw [h2]
  grind
theorem dlast_eq {PT VV OT Q g o s b2 c b : Int} (h1 : PT + g * VV = OT + Q * (c + b)) (h2 : s + c + b = o + 4294967296 * b2) : PT + Q * s + g * VV = OT + Q * o + Q * 4294967296 * b2 := by
  have : Q * (s + c + b) = Q * (o + 4294967296 * b2) := by rw [h2]
  grind
theorem put_step {PT RT VT Q o v c s c2 : Int} (h1 : PT + Q * c = RT + VT) (h2 : o + v + c = c2 * 4294967296 + s) : PT + Q * s + Q * 4294967296 * c2 = RT + Q * o + (VT + Q * v) := by
  have : Q * (o + v + c) = Q * (c2 * 4294967296 + s) := by rw [h2]
  grind
theorem back_eq {PT RT VV Q o c s mm rr : Int} (h1 : PT + Q * c = RT + VV) (h2 : RT + Q * o + VV = rr + Q * 4294967296) (h3 : o + c = s + 4294967296 * mm) : (PT + Q * s) + Q * 4294967296 * mm = rr + Q * 4294967296 := by
  have : Q * (o + c) = Q * (s + 4294967296 * mm) := by rw [h3]
  grind
theorem getD_of_drop {a b : List Int} {i : Nat} (h : a.drop i = b.drop i) : a.getD i 0 = b.getD i 0 := by
  have := congrArg (fun l => l.getD 0 0) h
  simpa [List.getD_eq_getElem?_getD, List.getElem?_drop] using this
theorem drop_more {a b : List Int} {i : Nat} (h : a.drop i = b.drop i) (x : Int) : (a.set i x).drop (i + 1) = b.drop (i + 1) := by
  rw [drop_set_lt (by omega), ← List.drop_drop, h, List.drop_drop]
theorem all_u32' (l : List Int) : (l.map u32).all AV.fz = true := by simp [AV.fz, oneV]
theorem s_digit (A O D V : List Int) (m : Nat) (hO : Wf O) (hV : Wf V) (hn : V.length = m + 2) (hu : O.length = m + 3) (hm : A.length + O.length + D.length ≤ 105553116264000) (htop : 2147483648 ≤ V.getD (m + 1) 0) (hlt : val O < 4294967296 * val V) :
    SpecH Tryz.prog 70 [.hs 1000000 1 A.length (m + 3) 1, .vs (m + 2) (V.map u32)] ((A ++ O ++ D).map u32) (u32 (val O / val V)) 1 ((A ++ fixN (m + 3) (val O % val V) ++ D).map u32) := by
  refine specH_of_awp mixed Tryz.func70 rfl Tryz.call70 (by kernel_rfl) (by simp) (by rfl) (by decide) (by simp [fixN_len, hu]) ?_
  have K := kn_of O V m hO hV hn hu htop hlt
  have hv1 := hV.at (m + 1)
  have hv2 := hV.at m
  have ho2 := hO.at (m + 2)
  have ho1 := hO.at (m + 1)
  have ho0 := hO.at m
  have hVl := val_lt hV
  have hVn := val_nonneg hV
  have hmod := Int.emod_def (val O) (val V)
  have hm0 : 0 ≤ val O % val V := Int.emod_nonneg _ (by have := K.pos; have := K.hM; omega)
  have hm1 : val O % val V < val V := Int.emod_lt_of_pos _ (by have := K.pos; have := K.hM; omega)
  have hpl := pow_le (m := V.length) (n := m + 3) (by omega)
  have hfv := fixN_val (m + 3) (val O % val V) hm0 (by omega)
  have hq := K.hq
  have hlo := K.lo
  have hhi := K.hi
  have bt := K.btop
  generalize hq0 : val O / val V = q at *
  generalize hq1 : val O % val V = rr at *
  have hg0 : 0 ≤ (O.getD (m + 2) 0 * 4294967296 + O.getD (m + 1) 0) / V.getD (m + 1) 0 := Int.ediv_nonneg (by omega) (by omega)
  have hgt : (O.getD (m + 2) 0 * 4294967296 + O.getD (m + 1) 0) / V.getD (m + 1) 0 ≤ O.getD (m + 2) 0 * 4294967296 + O.getD (m + 1) 0 := Int.ediv_le_self _ (by omega)
  have hr0 := Int.emod_nonneg (O.getD (m + 2) 0 * 4294967296 + O.getD (m + 1) 0) (show V.getD (m + 1) 0 ≠ 0 by omega)
  have hr1 := Int.emod_lt_of_pos (O.getD (m + 2) 0 * 4294967296 + O.getD (m + 1) 0) (show 0 < V.getD (m + 1) 0 by omega)
  have hX : (A ++ O ++ D).length = A.length + (m + 3) + D.length := by simp [hu]; omega
  have HQ := Hd.mk hlo
  have HQ2 := Hd.mk hhi
  have HM := Hd.mk hmod
  have HP := Hd.mk hpl
  clear hlo hhi hmod hpl
  refine TB ?_
  refine w_cut (α := Int) (fun g => [(.t 0, .hs 1000000 1 A.length (m + 3) 1), (.t 1, .vs (m + 2) (V.map u32)), (.t 5, .sc (.int .i64 (m + 2 : Int))), (.t 7, .sc (.int .u64 g)), (.h 1000000, .blk 1 2 ((A ++ O ++ D).map u32))]) (fun g => 0 ≤ g ∧ g < 4294967296 ∧ q ≤ g ∧ g ≤ q + 1) ?_ ?_
  · intro J hJ
    refine T ?_
    refine w_loop (α := Int × Int) (fun p => [(.t 0, .hs 1000000 1 A.length (m + 3) 1), (.t 1, .vs (m + 2) (V.map u32)), (.t 5, .sc (.int .i64 (m + 2 : Int))), (.t 7, .sc (.int .u64 p.1)), (.t 8, .sc (.int .u64 p.2)), (.h 1000000, .blk 1 2 ((A ++ O ++ D).map u32))])
      (fun p => 0 ≤ p.1 ∧ p.1 < 18446744073709551616 ∧ 0 ≤ p.2 ∧ p.2 < 4294967296 ∧ q ≤ p.1 ∧ Hd (p.1 * V.getD (m + 1) 0 + p.2 = O.getD (m + 2) 0 * 4294967296 + O.getD (m + 1) 0)) (fun p => p.1.toNat)
      ((O.getD (m + 2) 0 * 4294967296 + O.getD (m + 1) 0) / V.getD (m + 1) 0, (O.getD (m + 2) 0 * 4294967296 + O.getD (m + 1) 0) % V.getD (m + 1) 0)
      ⟨hg0, by show _ / _ < _; omega, hr0, by show _ % _ < _; omega, kn_guess K, ⟨by show _ / _ * _ + _ % _ = _; rw [Int.emod_def, Int.mul_comm]; omega⟩⟩ ?_ ?_
    · exact Hv
    rintro ⟨g, r⟩ s ⟨g1, g2, g3, g4, g5, g6⟩ J2 hJ2
    simp only at g1 g2 g3 g4 g5 g6
    by_cases c1 : 4294967296 ≤ g
    · obtain ⟨l1, l2⟩ := kn_less K g6 ⟨g3, g4⟩ (by omega)
      by_cases c : 4294967296 ≤ r + V.getD (m + 1) 0
      · refine T ?_
        exact hJ _ (g - 1) ⟨by omega, (l2 c).1, by omega, (l2 c).2⟩ Hv
      · refine T ?_
        exact hJ2 _ (g - 1, r + V.getD (m + 1) 0) (by show (g - 1).toNat < g.toNat; omega) ⟨by show 0 ≤ g - 1; omega, by show g - 1 < _; omega, by show 0 ≤ r + _; omega, by show r + _ < _; omega, by show q ≤ g - 1; omega, l1⟩ Hv
    · have hgv := mul_bd (x := g) (y := V.getD m 0) (by omega) hv2
      by_cases t : r * 4294967296 + O.getD m 0 < g * V.getD m 0
      · have hqg := K.over g1 g6.out t
        obtain ⟨l1, l2⟩ := kn_less K g6 ⟨g3, g4⟩ hqg
        by_cases c : 4294967296 ≤ r + V.getD (m + 1) 0
        · refine T ?_
          exact hJ _ (g - 1) ⟨by omega, (l2 c).1, by omega, (l2 c).2⟩ Hv
        · refine T ?_
          exact hJ2 _ (g - 1, r + V.getD (m + 1) 0) (by show (g - 1).toNat < g.toNat; omega) ⟨by show 0 ≤ g - 1; omega, by show g - 1 < _; omega, by show 0 ≤ r + _; omega, by show r + _ < _; omega, by show q ≤ g - 1; omega, l1⟩ Hv
      · have st := kn_stay K g6 ⟨g1, by omega⟩ t
        refine T ?_
        exact hJ _ g ⟨g1, by omega, g5, st⟩ Hv
  rintro g s ⟨g1, g2, g3, g4⟩
  refine T ?_
  refine w_loop (α := Nat × Int × Int × List Int) (fun p => [(.t 0, .hs 1000000 1 A.length (m + 3) 1), (.t 1, .vs (m + 2) (V.map u32)), (.t 5, .sc (.int .i64 (m + 2 : Int))), (.t 7, .sc (.int .u64 g)), (.t 9, .sc (.int .u64 p.2.2.1)), (.t 10, .sc (.int .u64 p.2.1)), (.t 82, .sc (.int .i64 (m + 2 : Int))), (.t 83, .sc (.int .i64 p.1)), (.h 1000000, .blk 1 2 ((A ++ p.2.2.2 ++ D).map u32))])
    (fun p => p.1 ≤ m + 2 ∧ p.2.2.2.length = m + 3 ∧ Wf p.2.2.2 ∧ 0 ≤ p.2.1 ∧ p.2.1 < 4294967296 ∧ 0 ≤ p.2.2.1 ∧ p.2.2.1 ≤ 1 ∧ p.2.2.2.drop p.1 = O.drop p.1 ∧ Hd (val (p.2.2.2.take p.1) + g * val (V.take p.1) = val (O.take p.1) + 4294967296 ^ p.1 * (p.2.1 + p.2.2.1))) (fun p => m + 2 - p.1)
    (0, 0, 0, O) ⟨Nat.zero_le _, hu, hO, Int.le_refl 0, (by decide : (0 : Int) < 4294967296), Int.le_refl 0, (by decide : (0 : Int) ≤ 1), rfl, ⟨by simp [val]⟩⟩ ?_ ?_
  · exact Hv
  rintro ⟨i, c, b, P⟩ s ⟨p1, p2, p3, p4, p5, p6, p7, p8, p9⟩ J hJ
  simp only at p1 p2 p3 p4 p5 p6 p7 p8 p9
  have hPX : (A ++ P ++ D).length = A.length + (m + 3) + D.length := by simp [p2]; omega
  have hPO := getD_of_drop p8
  have hpi := p3.at i
  by_cases hi : i < m + 2
  · have hvi := hV.at i
    have hgv := mul_bd (x := g) (y := V.getD i 0) ⟨g1, g2⟩ hvi
    obtain ⟨t, et, t1, t2, t3, t4⟩ := dstep hpi hvi ⟨g1, g2⟩ ⟨p4, p5⟩ ⟨p6, p7⟩
    have et' := et.out
    have fin : val ((P.set i (t % 4294967296)).take (i + 1)) + g * val (V.take (i + 1)) = val (O.take (i + 1)) + 4294967296 ^ (i + 1) * ((g * V.getD i 0 + c) / 4294967296 + t / 9223372036854775808) := by
      rw [val_take_set (by omega), val_take_at V, val_take_at O, ← hPO, pow_snoc]
      exact dmid_eq p9.out t4.out
    have FIN := Hd.mk fin
    clear fin et t4
    have tb : 0 ≤ t ∧ t < 18446744073709551616 := by rw [← et']; omega
    refine T ?_
    refine hJ _ (i + 1, (g * V.getD i 0 + c) / 4294967296, t / 9223372036854775808, P.set i (t % 4294967296)) (by show m + 2 - (i + 1) < m + 2 - i; omega) ⟨hi, by simp [p2], p3.set _ t1.1 t1.2, t2.1, t2.2, t3.1, t3.2, drop_more p8 _, FIN⟩ ?_
    rw [← et']
    exact Hv
  · have ei : i = m + 2 := by omega
    subst ei
    obtain ⟨t, et, t1, t3, t4⟩ := dlast hpi ⟨p4, p5⟩ ⟨p6, p7⟩
    have et' := et.out
    have tb : 0 ≤ t ∧ t < 18446744073709551616 := by rw [← et']; omega
    have hw2 : Wf (P.set (m + 2) (t % 4294967296)) := p3.set _ t1.1 t1.2
    have fin : val (P.set (m + 2) (t % 4294967296)) + g * val V = val O + 4294967296 ^ (m + 3) * (t / 9223372036854775808) := by
      have h1 := p9.out
      have h2 := t4.out
      have e1 : val (P.set (m + 2) (t % 4294967296)) = val (P.take (m + 2)) + 4294967296 ^ (m + 2) * (t % 4294967296) := by
        rw [← val_take_set (by omega), List.take_of_length_le (by simp; omega)]
      have e2 : val O = val (O.take (m + 2)) + 4294967296 ^ (m + 2) * O.getD (m + 2) 0 := by
        rw [← val_take_at O, List.take_of_length_le (by omega)]
      rw [List.take_of_length_le (l := V) (by omega)] at h1
      rw [e1, e2, ← hPO, show m + 3 = m + 2 + 1 from rfl, pow_snoc (m + 2)]
      exact dlast_eq h1 h2
    have hOn := val_nonneg hw2
    have hOlt := val_lt hw2
    have hlen : (P.set (m + 2) (t % 4294967296)).length = m + 3 := by simp [p2]
    rw [hlen] at hOlt
    rcases (show t / 9223372036854775808 = 0 ∨ t / 9223372036854775808 = 1 by omega) with hb2 | hb2
    · rw [hb2, Int.mul_zero, Int.add_zero] at fin
      have hgle : g = q := by
        have h1 := HQ2.out
        rcases (show g = q ∨ g = q + 1 by omega) with h | h
        · exact h
        · rw [h] at fin; omega
      have eO : P.set (m + 2) (t % 4294967296) = fixN (m + 3) rr := by
        refine eq_of_val hw2 (fixN_wf _ _) (by rw [fixN_len]; omega) ?_
        have h1 := HM.out
        rw [hfv, h1, Int.mul_comm (val V)]
        rw [hgle] at fin
        omega
      clear fin hOn hOlt
      refine TH ?_
      refine ⟨wk_eq (by rw [hgle]), ?_⟩
      rw [← eO, show t % 4294967296 = P.getD (m + 2) 0 - c - b by omega]
    · rw [hb2, Int.mul_one] at fin
      have h1 := HQ.out
      have h2 := HQ2.out
      have hgle : g = q + 1 := by
        rcases (show g = q ∨ g = q + 1 by omega) with h | h
        · rw [h] at fin; omega
        · exact h
      have e2 : (q + 1) * val V = q * val V + val V := by grind
      rw [hgle, e2] at fin
      have hpl2 := pow_le (m := V.length) (n := m + 3) (by omega)
      have hm2 := HM.out
      rw [Int.mul_comm] at hm2
      have sum : val (P.set (m + 2) (t % 4294967296)) + val V = rr + 4294967296 ^ (m + 3) := by omega
      have SUM := Hd.mk sum
      clear sum fin e2 h1 h2 hOn hOlt hpl2 hm2
      refine T ?_
      rw [et']
      generalize hR : P.set (m + 2) (t % 4294967296) = R at *
      refine w_loop (α := Nat × Int × List Int) (fun p => [(.t 0, .hs 1000000 1 A.length (m + 3) 1), (.t 1, .vs (m + 2) (V.map u32)), (.t 5, .sc (.int .i64 (m + 2 : Int))), (.t 7, .sc (.int .u64 g)), (.t 15, u32 p.2.1), (.t 135, .sc (.int .i64 (m + 2 : Int))), (.t 136, .sc (.int .i64 p.1)), (.h 1000000, .blk 1 2 ((A ++ p.2.2 ++ D).map u32))])
        (fun p => p.1 ≤ m + 2 ∧ p.2.2.length = m + 3 ∧ Wf p.2.2 ∧ 0 ≤ p.2.1 ∧ p.2.1 < 2 ∧ p.2.2.drop p.1 = R.drop p.1 ∧ Hd (val (p.2.2.take p.1) + 4294967296 ^ p.1 * p.2.1 = val (R.take p.1) + val (V.take p.1))) (fun p => m + 2 - p.1)
        (0, 0, R) ⟨Nat.zero_le _, hlen, hw2, Int.le_refl 0, (by decide : (0 : Int) < 2), rfl, ⟨by simp [val]⟩⟩ ?_ ?_
      · exact Hv
      rintro ⟨i, c, P⟩ s ⟨p1, p2, p3, p4, p5, p8, p9⟩ J hJ
      simp only at p1 p2 p3 p4 p5 p8 p9
      have hPX : (A ++ P ++ D).length = A.length + (m + 3) + D.length := by simp [p2]; omega
      have hPO := getD_of_drop p8
      have hpi := p3.at i
      by_cases hi : i < m + 2
      · have hvi := hV.at i
        refine T (dcall_by (s_Add32 _ _ _ hpi.1 hpi.2 hvi.1 hvi.2 p4 p5) ?_)
        refine T ?_
        refine hJ _ (i + 1, (P.getD i 0 + V.getD i 0 + c) / 4294967296, P.set i ((P.getD i 0 + V.getD i 0 + c) % 4294967296)) (by show m + 2 - (i + 1) < m + 2 - i; omega) ⟨hi, by simp [p2], p3.set _ (by omega) (by omega), by show 0 ≤ _ / _; omega, by show _ / _ < (2 : Int); omega, drop_more p8 _, ⟨?_⟩⟩ Hv
        show val ((P.set i ((P.getD i 0 + V.getD i 0 + c) % 4294967296)).take (i + 1)) + 4294967296 ^ (i + 1) * ((P.getD i 0 + V.getD i 0 + c) / 4294967296) = val (R.take (i + 1)) + val (V.take (i + 1))
        rw [val_take_set (by omega), val_take_at R, val_take_at V, ← hPO, pow_snoc]
        exact put_step p9.out (by have := Int.mul_ediv_add_emod (P.getD i 0 + V.getD i 0 + c) 4294967296; omega)
      · have ei : i = m + 2 := by omega
        subst ei
        have hw3 : Wf (P.set (m + 2) ((P.getD (m + 2) 0 + c) % 4294967296)) := p3.set _ (by omega) (by omega)
        have eP : P.set (m + 2) ((P.getD (m + 2) 0 + c) % 4294967296) = fixN (m + 3) rr := by
          refine eq_of_val hw3 (fixN_wf _ _) (by rw [fixN_len]; simp [p2]) ?_
          have l3 := val_lt hw3
          have l4 := val_nonneg hw3
          rw [show (P.set (m + 2) ((P.getD (m + 2) 0 + c) % 4294967296)).length = m + 3 by simp [p2]] at l3
          have e1 : val (P.set (m + 2) ((P.getD (m + 2) 0 + c) % 4294967296)) = val (P.take (m + 2)) + 4294967296 ^ (m + 2) * ((P.getD (m + 2) 0 + c) % 4294967296) := by
            rw [← val_take_set (by omega), List.take_of_length_le (by simp; omega)]
          have e2 : val R = val (R.take (m + 2)) + 4294967296 ^ (m + 2) * R.getD (m + 2) 0 := by
            rw [← val_take_at R, List.take_of_length_le (by omega)]
          have h1 := p9.out
          rw [List.take_of_length_le (l := V) (by omega)] at h1
          have h2 := SUM.out
          rw [e2, ← hPO, show m + 3 = m + 2 + 1 from rfl, pow_snoc (m + 2)] at h2
          have h3 := back_eq h1 h2 (show P.getD (m + 2) 0 + c = (P.getD (m + 2) 0 + c) % 4294967296 + 4294967296 * ((P.getD (m + 2) 0 + c) / 4294967296) by omega)
          rw [← e1, ← pow_snoc (m + 2)] at h3
          have hp := HP.out
          rw [hfv]
          rcases (show (P.getD (m + 2) 0 + c) / 4294967296 = 0 ∨ (P.getD (m + 2) 0 + c) / 4294967296 = 1 by omega) with h | h
          · rw [h] at h3
            simp only [show m + 2 + 1 = m + 3 from rfl] at h3
            omega
          · rw [h] at h3
            omega
        refine TH ?_
        exact ⟨wk_eq (by rw [show g - 1 = q by omega]), by rw [eP]⟩
end Go.Ab
end
