import Derived.Test.YtiamjfckgmnijaaDoorFtR
import Derived.Test.YtiamjfckgmnijaaDoorFtNa
import Derived.Test.YtiamjfckgmnijaaDoorFtFl5
import Derived.Test.YtiamjfckgmnijaaDoorFtK
import Derived.Test.YtiamjfckgmnijaaDoorFtL
import Derived.Test.YtiamjfckgmnijaaDoorFtNb
import Derived.Test.YtiamjfckgmnijaaDoorFtNd
set_option linter.all false
section
namespace Go.Ab
open Go Go.Proofs Go.Proofs.YtiamjfckgmnijaaDoor.Pl
set_option maxRecDepth 100000
theorem bitsL_ge {l : List Int} (hw : Wf l) (h : trim l = l) (hl : l.length ≠ 0) : 1 ≤ bitsL l ∧ (2 : Int) ^ ((bitsL l).toNat - 1) ≤ val l := by
  unfold bitsL
  rw [if_neg hl]
  obtain ⟨m, hm⟩ : ∃ m, l.length = m + 1 := ⟨l.length - 1, by omega⟩
  have wt := top_pos hw h hl
  have wtt := hw.at (l.length - 1)
  rw [show l.length - 1 = m from by omega] at wt wtt ⊢
  obtain ⟨n, hn⟩ := Int.eq_ofNat_of_zero_le (show 0 ≤ l.getD m 0 by omega)
  obtain ⟨ha, hb, hc⟩ := Lib.bitLenAux_bounds 64 n (by omega) (by omega)
  have eV : val l = val (l.take m) + 4294967296 ^ m * l.getD m 0 := by rw [← val_take_at l, List.take_of_length_le (by omega)]
  have hX := (take_lt hw m (by omega))
  have hX0 : 0 ≤ val (l.take m) := val_nonneg (fun x hx => hw x (List.mem_of_mem_take hx))
  have e0 : Lib.bitLen n = Lib.bitLenAux 64 n := rfl
  rw [hn, Int.toNat_natCast] at *
  refine ⟨by omega, ?_⟩
  have e : (32 * ((l.length : Int) - 1) + (Lib.bitLen n : Int)).toNat - 1 = 32 * m + (Lib.bitLen n - 1) := by omega
  rw [e, Int.pow_add, ← pow32, eV]
  have h2 : (2 : Int) ^ (Lib.bitLen n - 1) ≤ n := by
    have : ((2 ^ (Lib.bitLen n - 1) : Nat) : Int) ≤ (n : Int) := Int.ofNat_le.2 hb
    simpa using this
  have h3 : 4294967296 ^ m * 2 ^ (Lib.bitLen n - 1) ≤ 4294967296 ^ m * (n : Int) := Int.mul_le_mul_of_nonneg_left h2 (Int.le_of_lt (pow_pos' m))
  omega
end Go.Ab
end
section
namespace Go.Ab
theorem rnd9 {q d s : Nat} (h : (d = 0 ∧ s = 0) ∨ (1 ≤ d ∧ d ≤ 3 ∧ s = 1)) : rnd (4 * q + d) 10 = rnd (2 * q + s) 9 := by
  unfold rnd
  rw [show 2 ^ 10 = 1024 by decide, show 2 ^ (10 - 1) = 512 by decide, show 2 ^ (9 - 1) = 256 by decide]
  split <;> split <;> omega
theorem rnd10 {q d s : Nat} (h : (d = 0 ∧ s = 0) ∨ (1 ≤ d ∧ d ≤ 3 ∧ s = 1)) : rnd (4 * q + d) 11 = rnd (2 * q + s) 10 := by
  unfold rnd
  rw [show 2 ^ 11 = 2048 by decide, show 2 ^ (11 - 1) = 1024 by decide, show 2 ^ (10 - 1) = 512 by decide]
  split <;> split <;> omega
theorem jq_at {man l : Nat} {e : Int} (h : man.log2 = l) (he : -1000 ≤ e + (l : Int) - 52) : jq man e = e + (l : Int) - 52 := by
  unfold jq
  rw [h]
  omega
theorem jr_at {man l c : Nat} {e : Int} (h0 : 0 < man) (h : man.log2 = l) (hc : l = c + 52) (h1 : 1 ≤ c) (h2 : c ≤ 64) (he : -900 ≤ e) (he' : e ≤ 900) : jr man e = finR (rnd man c) (e + (c : Int)) := by
  have q := jq_at (e := e) h (by omega)
  unfold jr
  rw [if_neg (by omega), if_neg (by omega), q, if_neg (by omega), if_neg (by omega), show e + (l : Int) - 52 = e + (c : Int) by omega, show (e + (c : Int) - e).toNat = c by omega]
theorem near_eq {q d s : Nat} {e : Int} (hq : 2 ^ 60 ≤ q) (hq' : q < 2 ^ 62) (h : (d = 0 ∧ s = 0) ∨ (1 ≤ d ∧ d ≤ 3 ∧ s = 1)) (he : -800 ≤ e) (he' : e ≤ 800) : jr (4 * q + d) (e - 1) = jr (2 * q + s) e := by
  by_cases hl : q < 2 ^ 61
  · have l1 : (2 * q + s).log2 = 61 := (Nat.log2_eq_iff (by omega)).2 ⟨by omega, by omega⟩
    have l2 : (4 * q + d).log2 = 62 := (Nat.log2_eq_iff (by omega)).2 ⟨by omega, by omega⟩
    rw [jr_at (c := 9) (by omega) l1 rfl (by omega) (by omega) (by omega) (by omega), jr_at (c := 10) (by omega) l2 rfl (by omega) (by omega) (by omega) (by omega), rnd9 h]
    congr 1
    omega
  · have l1 : (2 * q + s).log2 = 62 := (Nat.log2_eq_iff (by omega)).2 ⟨by omega, by omega⟩
    have l2 : (4 * q + d).log2 = 63 := (Nat.log2_eq_iff (by omega)).2 ⟨by omega, by omega⟩
    rw [jr_at (c := 10) (by omega) l1 rfl (by omega) (by omega) (by omega) (by omega), jr_at (c := 11) (by omega) l2 rfl (by omega) (by omega) (by omega) (by omega), rnd10 h]
    congr 1
    omega
end Go.Ab
end
section
namespace Go.Ab
theorem div_uniq {a b q r : Int} (h : r + b * q = a) (h0 : 0 ≤ r) (h1 : r < b) : a / b = q ∧ a % b = r := (Int.ediv_emod_unique (by omega)).2 ⟨h, h0, h1⟩
theorem near_two {A B A' B' : Int} (hB : 0 < B) (hB' : 0 < B') (h : (A' = 2 * A ∧ B' = B) ∨ (A' = A ∧ B = 2 * B')) :
    ∃ d s : Nat, 2 * (A' / B') + (if A' % B' = 0 then 0 else 1) = 4 * (A / B) + d ∧ (s : Int) = (if A % B = 0 then 0 else 1) ∧ ((d = 0 ∧ s = 0) ∨ (1 ≤ d ∧ d ≤ 3 ∧ s = 1)) := by
  have e := Int.emod_add_mul_ediv A B
  have r0 := Int.emod_nonneg A (show B ≠ 0 by omega)
  have r1 := Int.emod_lt_of_pos A hB
  generalize A / B = q at *
  generalize A % B = r at *
  have key : ∃ β r' : Int, A' / B' = 2 * q + β ∧ A' % B' = r' ∧ ((β = 0 ∧ (r' = 0 ↔ r = 0)) ∨ (β = 1 ∧ r ≠ 0)) := by
    rcases h with ⟨h1, h2⟩ | ⟨h1, h2⟩
    · subst h2
      have e2 : 2 * r + B' * (2 * q) = A' := by rw [h1, ← e, Int.mul_add, Int.mul_left_comm]
      by_cases c : 2 * r < B'
      · obtain ⟨u, v⟩ := div_uniq e2 (by omega) c
        exact ⟨0, 2 * r, by omega, v, .inl ⟨rfl, by omega⟩⟩
      · obtain ⟨u, v⟩ := div_uniq (a := A') (b := B') (q := 2 * q + 1) (r := 2 * r - B') (by rw [Int.mul_add, Int.mul_one]; omega) (by omega) (by omega)
        exact ⟨1, 2 * r - B', u, v, .inr ⟨rfl, by omega⟩⟩
    · have e2 : r + B' * (2 * q) = A' := by rw [h1, ← e, h2, Int.mul_assoc, Int.mul_left_comm B']
      by_cases c : r < B'
      · obtain ⟨u, v⟩ := div_uniq e2 r0 c
        exact ⟨0, r, by omega, v, .inl ⟨rfl, Iff.rfl⟩⟩
      · obtain ⟨u, v⟩ := div_uniq (a := A') (b := B') (q := 2 * q + 1) (r := r - B') (by rw [Int.mul_add, Int.mul_one]; omega) (by omega) (by omega)
        exact ⟨1, r - B', u, v, .inr ⟨rfl, by omega⟩⟩
  obtain ⟨β, r', u, v, w⟩ := key
  rw [u, v]
  rcases w with ⟨w1, w2⟩ | ⟨w1, w2⟩
  · by_cases hr : r = 0
    · exact ⟨0, 0, by rw [if_pos (w2.2 hr)]; omega, by rw [if_pos hr]; rfl, .inl ⟨rfl, rfl⟩⟩
    · exact ⟨1, 1, by rw [if_neg (fun h => hr (w2.1 h))]; omega, by rw [if_neg hr]; rfl, .inr ⟨by omega, by omega, rfl⟩⟩
  · by_cases hr : r' = 0
    · exact ⟨2, 1, by rw [if_pos hr]; omega, by rw [if_neg w2]; rfl, .inr ⟨by omega, by omega, rfl⟩⟩
    · exact ⟨3, 1, by rw [if_neg hr]; omega, by rw [if_neg w2]; rfl, .inr ⟨by omega, by omega, rfl⟩⟩
theorem pw (n : Nat) : (0 : Int) < 2 ^ n := Int.pow_pos (by decide)
theorem near_bd {n d : Int} {bn bd : Nat} {k : Int} (hn1 : 2 ^ (bn - 1) ≤ n) (hn2 : n < 2 ^ bn) (hd1 : 2 ^ (bd - 1) ≤ d) (hd2 : d < 2 ^ bd) (h1 : 1 ≤ bn) (h2 : 1 ≤ bd) (hk : k = 61 - (bn : Int) + bd) :
    2 ^ 60 ≤ n * 2 ^ k.toNat / (d * 2 ^ (-k).toNat) ∧ n * 2 ^ k.toNat / (d * 2 ^ (-k).toNat) < 2 ^ 62 := by
  have pd : 0 < d := Int.lt_of_lt_of_le (pw _) hd1
  have pB : 0 < d * 2 ^ (-k).toNat := Int.mul_pos pd (pw _)
  have a1 : (2 : Int) ^ (bn - 1) * 2 ^ k.toNat ≤ n * 2 ^ k.toNat := Int.mul_le_mul_of_nonneg_right hn1 (Int.le_of_lt (pw _))
  have a2 : n * 2 ^ k.toNat < (2 : Int) ^ bn * 2 ^ k.toNat := Int.mul_lt_mul_of_pos_right hn2 (pw _)
  have b1 : (2 : Int) ^ (bd - 1) * 2 ^ (-k).toNat ≤ d * 2 ^ (-k).toNat := Int.mul_le_mul_of_nonneg_right hd1 (Int.le_of_lt (pw _))
  have b2 : d * 2 ^ (-k).toNat < (2 : Int) ^ bd * 2 ^ (-k).toNat := Int.mul_lt_mul_of_pos_right hd2 (pw _)
  rw [← Int.pow_add] at a1 a2 b1 b2
  generalize n * 2 ^ k.toNat = A at *
  generalize d * 2 ^ (-k).toNat = B at *
  have c1 : (2 : Int) ^ (bn - 1 + k.toNat) = 2 ^ 60 * 2 ^ (bd + (-k).toNat) := by rw [← Int.pow_add]; congr 1; omega
  have c2 : (2 : Int) ^ (bn + k.toNat) = 2 ^ 62 * 2 ^ (bd - 1 + (-k).toNat) := by rw [← Int.pow_add]; congr 1; omega
  constructor
  · rw [Int.le_ediv_iff_mul_le pB]
    rw [c1] at a1
    generalize (2 : Int) ^ (bd + (-k).toNat) = P at *
    omega
  · rw [Int.ediv_lt_iff_lt_mul pB]
    rw [c2] at a2
    generalize (2 : Int) ^ (bd - 1 + (-k).toNat) = P at *
    omega
end Go.Ab
end
section
namespace Go.Ab
open Go Go.Proofs Go.Proofs.YtiamjfckgmnijaaDoor.Pl
set_option maxRecDepth 100000
set_option exponentiation.threshold 5000
set_option maxHeartbeats 8000000
theorem N_two {q : Int} (h1 : 4294967296 ≤ q) (h2 : q < 18446744073709551616) : N q = [q % 4294967296, q / 4294967296] := by
  refine ((N_is (by omega)).unique ⟨?_, ?_, ?_⟩)
  · intro x hx
    simp only [List.mem_cons, List.mem_nil_iff, or_false] at hx
    rcases hx with rfl | rfl <;> omega
  · exact trim_snoc [q % 4294967296] (q / 4294967296) (by omega)
  · simp only [val]
    omega
theorem orQ {q : Int} (h1 : 0 ≤ q) (h2 : q < 4611686018427387904) : bOr .u64 (q / 4294967296 * 4294967296) (q % 4294967296) = q := by
  obtain ⟨m, rfl⟩ := Int.eq_ofNat_of_zero_le h1
  have e := Nat.two_pow_add_eq_or_of_lt (i := 32) (show m % 4294967296 < 2 ^ 32 by omega) (m / 4294967296)
  have e2 : (BitVec.ofInt 64 ((m : Int) / 4294967296 * 4294967296) ||| BitVec.ofInt 64 ((m : Int) % 4294967296)).toNat = m := by
    rw [show (m : Int) / 4294967296 * 4294967296 = ((2 ^ 32 * (m / 4294967296) : Nat) : Int) by omega, show (m : Int) % 4294967296 = ((m % 4294967296 : Nat) : Int) by omega, ofInt_nat, ofInt_nat, BitVec.toNat_or, BitVec.toNat_ofNat, BitVec.toNat_ofNat, Nat.mod_eq_of_lt (by omega), Nat.mod_eq_of_lt (by omega), ← e]
    omega
  show IntKind.u64.wrap ((BitVec.ofInt 64 ((m : Int) / 4294967296 * 4294967296) ||| BitVec.ofInt 64 ((m : Int) % 4294967296)).toNat : Int) = _
  rw [e2, wrapu64 (by omega) (by omega)]
theorem or_1 {q : Int} (h1 : 0 ≤ q) (h2 : q < 4611686018427387904) : bOr .u64 (q * 2) 1 = 2 * q + 1 := by
  obtain ⟨m, rfl⟩ := Int.eq_ofNat_of_zero_le h1
  have e := Nat.two_pow_add_eq_or_of_lt (i := 1) (show 1 < 2 ^ 1 by decide) m
  have e2 : (BitVec.ofInt 64 ((m : Int) * 2) ||| BitVec.ofInt 64 1).toNat = 2 * m + 1 := by
    rw [show (m : Int) * 2 = ((2 ^ 1 * m : Nat) : Int) by omega, show BitVec.ofInt 64 1 = BitVec.ofNat 64 1 by decide, ofInt_nat, BitVec.toNat_or, BitVec.toNat_ofNat, BitVec.toNat_ofNat, Nat.mod_eq_of_lt (by omega), Nat.mod_eq_of_lt (by decide), ← e]
  show IntKind.u64.wrap ((BitVec.ofInt 64 ((m : Int) * 2) ||| BitVec.ofInt 64 1).toNat : Int) = _
  rw [e2, wrapu64 (by omega) (by omega)]
  omega
theorem s_Near_walk (b : Bool) (n d : List Int) (k q : Int) (K1 K2 : Nat) (lx ly : List Int) (Bn Bd : Int) (m : Nat) (L : List AV) (w : Nat) (r : Nat) (hform : Spec Tryd.prog 50 [RA b n d] (.sc (.bool true))) (hn : n.length ≠ 0) (hnl : n.length ≤ 16)
    (cBn : Spec Tryd.prog 51 [U n] (.sc (.int .i64 Bn))) (cBd : Spec Tryd.prog 51 [U d] (.sc (.int .i64 Bd))) (hk : k = 61 - Bn + Bd) (bn1 : 1 ≤ Bn) (bn2 : Bn ≤ 512) (bd1 : 1 ≤ Bd) (bd2 : Bd ≤ 512)
    (hK1 : K1 = k.toNat) (hK2 : K2 = (-k).toNat) (cS1 : Spec Tryd.prog 48 [U n, .sc (.int .i64 K1)] (U lx)) (cS2 : Spec Tryd.prog 48 [U d, .sc (.int .i64 K2)] (U ly))
    (q0 : 0 ≤ q) (q1 : q < 4611686018427387904) (hL : L.length = m)
    (cQ : SpecG Tryd.prog 52 [U lx, U ly] [] (.tup [.hs 1000000 1 0 2 1, .hs 1000001 1 0 m 1]) [(1, [u32 (q % 4294967296), u32 (q / 4294967296)]), (1, L)])
    (hw : (w : Int) = 2 * q + (if m = 0 then 0 else 1)) (cJ : Spec Tryd.prog 16 [.sc (.bool b), u64 w, .sc (.int .i64 (-k - 1))] (f64 r)) :
    Spec Tryd.prog 27 [RA b n d] (.tup [f64 r, .sc (.int .i64 0)]) := by
  refine spec_of_awp mixed Tryd.func27 rfl Tryd.call27 (by kernel_rfl) (by simp) rfl ?_
  refine T (call_by hform ?_)
  refine T (dcall_by0 cBn ?_)
  refine TS (dcall_by0 cBd ?_)
  refine TS ?_
  refine w_cut (α := Unit) (fun _ => [(.t 1, .hp 1 1 0), (.h 1, .blk 1 2 [.sc (.bool b), U n, U d]), (.t 4, .sc (.int .i64 k)), (.t 5, U lx), (.t 6, U ly)]) (fun _ => True) ?_ ?_
  · intro J hJ
    rw [hk] at hJ
    rcases Int.lt_trichotomy k 0 with k0 | k0 | k0
    · refine TM ?_
      refine dcall_eq (congrArg (fun z => [U n, AV.sc (Value.int .i64 z)]) (show (0 : Int) = (K1 : Int) by omega)) cS1 ?_
      refine TM ?_
      refine dcall_eq (congrArg (fun z => [U d, AV.sc (Value.int .i64 z)]) (show 0 - (61 - Bn + Bd) = (K2 : Int) by omega)) cS2 ?_
      refine TM ?_
      exact hJ _ () trivial (Hk rfl <| Hk rfl <| Hk rfl <| Hk rfl <| Hk rfl trivial)
    · refine TM ?_
      refine dcall_eq (congrArg (fun z => [U n, AV.sc (Value.int .i64 z)]) (show 61 - Bn + Bd = (K1 : Int) by omega)) cS1 ?_
      refine TM ?_
      refine dcall_eq (congrArg (fun z => [U d, AV.sc (Value.int .i64 z)]) (show 0 - (61 - Bn + Bd) = (K2 : Int) by omega)) cS2 ?_
      refine TM ?_
      exact hJ _ () trivial (Hk rfl <| Hk rfl <| Hk rfl <| Hk rfl <| Hk rfl trivial)
    · refine TM ?_
      refine dcall_eq (congrArg (fun z => [U n, AV.sc (Value.int .i64 z)]) (show 61 - Bn + Bd = (K1 : Int) by omega)) cS1 ?_
      refine TM ?_
      refine dcall_eq (congrArg (fun z => [U d, AV.sc (Value.int .i64 z)]) (show (0 : Int) = (K2 : Int) by omega)) cS2 ?_
      refine TM ?_
      exact hJ _ () trivial (Hk rfl <| Hk rfl <| Hk rfl <| Hk rfl <| Hk rfl trivial)
  rintro ⟨⟩ r0 _
  refine T ?_
  refine call_g [] false cQ trivial rfl (by simp) (by simp [pOf]) rfl rfl rfl nofun ?_
  refine T ?_
  rw [show q / 4294967296 * 4294967296 + q % 4294967296 = q by omega]
  by_cases hm : m = 0
  · rw [if_pos hm] at hw
    refine T ?_
    refine call_eq (show [AV.sc (.bool b), AV.sc (.int .u64 (q * 2)), AV.sc (.int .i64 (0 - k - 1))] = [AV.sc (.bool b), u64 w, AV.sc (.int .i64 (-k - 1))] by rw [show q * 2 = (w : Int) by omega, show 0 - k - 1 = -k - 1 by omega]) cJ ?_
    refine T (r_ret ?_)
    rw [Tryd.results27]
    refine R ?_
    exact Wk.refl _
  · rw [if_neg hm] at hw
    refine T ?_
    rw [or_1 q0 q1]
    refine call_eq (show [AV.sc (.bool b), AV.sc (.int .u64 (2 * q + 1)), AV.sc (.int .i64 (0 - k - 1))] = [AV.sc (.bool b), u64 w, AV.sc (.int .i64 (-k - 1))] by rw [show 2 * q + 1 = (w : Int) by omega, show 0 - k - 1 = -k - 1 by omega]) cJ ?_
    refine T (r_ret ?_)
    rw [Tryd.results27]
    refine R ?_
    exact Wk.refl _
theorem s_Near_walk0 (b : Bool) (n d : List Int) (k q : Int) (K1 K2 : Nat) (lx ly : List Int) (Bn Bd : Int) (w : Nat) (r : Nat) (hform : Spec Tryd.prog 50 [RA b n d] (.sc (.bool true))) (hn : n.length ≠ 0) (hnl : n.length ≤ 16)
    (cBn : Spec Tryd.prog 51 [U n] (.sc (.int .i64 Bn))) (cBd : Spec Tryd.prog 51 [U d] (.sc (.int .i64 Bd))) (hk : k = 61 - Bn + Bd) (bn1 : 1 ≤ Bn) (bn2 : Bn ≤ 512) (bd1 : 1 ≤ Bd) (bd2 : Bd ≤ 512)
    (hK1 : K1 = k.toNat) (hK2 : K2 = (-k).toNat) (cS1 : Spec Tryd.prog 48 [U n, .sc (.int .i64 K1)] (U lx)) (cS2 : Spec Tryd.prog 48 [U d, .sc (.int .i64 K2)] (U ly))
    (q0 : 0 ≤ q) (q1 : q < 4611686018427387904)
    (cQ : SpecG Tryd.prog 52 [U lx, U ly] [] (.tup [.hs 1000000 1 0 2 1, .sc (.slice none 0 0)]) [(1, [u32 (q % 4294967296), u32 (q / 4294967296)])])
    (hw : (w : Int) = 2 * q) (cJ : Spec Tryd.prog 16 [.sc (.bool b), u64 w, .sc (.int .i64 (-k - 1))] (f64 r)) :
    Spec Tryd.prog 27 [RA b n d] (.tup [f64 r, .sc (.int .i64 0)]) := by
  refine spec_of_awp mixed Tryd.func27 rfl Tryd.call27 (by kernel_rfl) (by simp) rfl ?_
  refine T (call_by hform ?_)
  refine T (dcall_by0 cBn ?_)
  refine TS (dcall_by0 cBd ?_)
  refine TS ?_
  refine w_cut (α := Unit) (fun _ => [(.t 1, .hp 1 1 0), (.h 1, .blk 1 2 [.sc (.bool b), U n, U d]), (.t 4, .sc (.int .i64 k)), (.t 5, U lx), (.t 6, U ly)]) (fun _ => True) ?_ ?_
  · intro J hJ
    rw [hk] at hJ
    rcases Int.lt_trichotomy k 0 with k0 | k0 | k0
    · refine TM ?_
      refine dcall_eq (congrArg (fun z => [U n, AV.sc (Value.int .i64 z)]) (show (0 : Int) = (K1 : Int) by omega)) cS1 ?_
      refine TM ?_
      refine dcall_eq (congrArg (fun z => [U d, AV.sc (Value.int .i64 z)]) (show 0 - (61 - Bn + Bd) = (K2 : Int) by omega)) cS2 ?_
      refine TM ?_
      exact hJ _ () trivial (Hk rfl <| Hk rfl <| Hk rfl <| Hk rfl <| Hk rfl trivial)
    · refine TM ?_
      refine dcall_eq (congrArg (fun z => [U n, AV.sc (Value.int .i64 z)]) (show 61 - Bn + Bd = (K1 : Int) by omega)) cS1 ?_
      refine TM ?_
      refine dcall_eq (congrArg (fun z => [U d, AV.sc (Value.int .i64 z)]) (show 0 - (61 - Bn + Bd) = (K2 : Int) by omega)) cS2 ?_
      refine TM ?_
      exact hJ _ () trivial (Hk rfl <| Hk rfl <| Hk rfl <| Hk rfl <| Hk rfl trivial)
    · refine TM ?_
      refine dcall_eq (congrArg (fun z => [U n, AV.sc (Value.int .i64 z)]) (show 61 - Bn + Bd = (K1 : Int) by omega)) cS1 ?_
      refine TM ?_
      refine dcall_eq (congrArg (fun z => [U d, AV.sc (Value.int .i64 z)]) (show (0 : Int) = (K2 : Int) by omega)) cS2 ?_
      refine TM ?_
      exact hJ _ () trivial (Hk rfl <| Hk rfl <| Hk rfl <| Hk rfl <| Hk rfl trivial)
  rintro ⟨⟩ r0 _
  refine T ?_
  refine call_g [] false cQ trivial rfl (by simp) (by simp [pOf]) rfl rfl rfl nofun ?_
  refine T ?_
  rw [show q / 4294967296 * 4294967296 + q % 4294967296 = q by omega]
  refine T ?_
  refine call_eq (show [AV.sc (.bool b), AV.sc (.int .u64 (q * 2)), AV.sc (.int .i64 (0 - k - 1))] = [AV.sc (.bool b), u64 w, AV.sc (.int .i64 (-k - 1))] by rw [show q * 2 = (w : Int) by omega, show 0 - k - 1 = -k - 1 by omega]) cJ ?_
  refine T (r_ret ?_)
  rw [Tryd.results27]
  refine R ?_
  exact Wk.refl _
end Go.Ab
end
