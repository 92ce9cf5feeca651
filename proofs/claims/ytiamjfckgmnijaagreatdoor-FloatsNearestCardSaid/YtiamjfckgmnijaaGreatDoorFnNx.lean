import Derived.Test.YtiamjfckgmnijaaGreatDoorFnNa
import Derived.Test.YtiamjfckgmnijaaGreatDoorFnR
import Derived.Test.YtiamjfckgmnijaaGreatDoorFnFl5
import Derived.Test.YtiamjfckgmnijaaGreatDoorFnK
import Derived.Test.YtiamjfckgmnijaaGreatDoorFnL
import Derived.Test.YtiamjfckgmnijaaGreatDoorFnNb
import Derived.Test.YtiamjfckgmnijaaGreatDoorFnNd
import Derived.Test.YtiamjfckgmnijaaGreatDoorFnFj3
import Derived.Test.YtiamjfckgmnijaaGreatDoorFnU
import Derived.Test.YtiamjfckgmnijaaGreatDoorFnT
import Derived.Test.YtiamjfckgmnijaaGreatDoorFnFj4
set_option linter.all false
section
namespace Go.Ab
theorem rnd9 {q d s : Nat} (h : (d = 0 ∧ s = 0) ∨ (1 ≤ d ∧ d ≤ 3 ∧ s = 1)) : rnd (4 * q + d) 10 = rnd (2 * q + s) 9 := by
  unfold rnd
  rw [show 2 ^ 10 = 1024 by decide, show 2 ^ (10 - 1) = 512 by decide, show 2 ^ (9 - 1) = 256 by decide]
  split <;> split <;> omega
theorem rnd10 {q d s : Nat} (h : (d = 0 ∧ s = 0) ∨ (1 ≤ d ∧ d ≤ 3 ∧ s = 1)) : rnd (4 * q + d) 11 = rnd (2 * q + s) 10 := by
  unfold rnd
  rw [show 2 ^ 11 = 2048 by decide, show 2 ^ (11 - 1) = 1024 by decide, show 2 ^ (10 - 1) = 512 by decide]
  split <;> split <;> omega
theorem jq_at {man l : Nat} {e : Int} (h : man.log2 = l) (he : -1000 ≤ e + (l : Int) - 52) : jq man e = e + (l : Int) - 52 := by
  unfold jq
  rw [h]
  omega
theorem jr_at {man l c : Nat} {e : Int} (h0 : 0 < man) (h : man.log2 = l) (hc : l = c + 52) (h1 : 1 ≤ c) (h2 : c ≤ 64) (he : -900 ≤ e) (he' : e ≤ 900) : jr man e = finR (rnd man c) (e + (c : Int)) := by
  have q := jq_at (e := e) h (by omega)
  unfold jr
  rw [if_neg (by omega), if_neg (by omega), q, if_neg (by omega), if_neg (by omega), show e + (l : Int) - 52 = e + (c : Int) by omega, show (e + (c : Int) - e).toNat = c by omega]
theorem near_eq {q d s : Nat} {e : Int} (hq : 2 ^ 60 ≤ q) (hq' : q < 2 ^ 62) (h : (d = 0 ∧ s = 0) ∨ (1 ≤ d ∧ d ≤ 3 ∧ s = 1)) (he : -800 ≤ e) (he' : e ≤ 800) : jr (4 * q + d) (e - 1) = jr (2 * q + s) e := by
  by_cases hl : q < 2 ^ 61
  · have l1 : (2 * q + s).log2 = 61 := (Nat.log2_eq_iff (by omega)).2 ⟨by omega, by omega⟩
    have l2 : (4 * q + d).log2 = 62 := (Nat.log2_eq_iff (by omega)).2 ⟨by omega, by omega⟩
    rw [jr_at (c := 9) (by omega) l1 rfl (by omega) (by omega) (by omega) (by omega), jr_at (c := 10) (by omega) l2 rfl (by omega) (by omega) (by omega) (by omega), rnd9 h]
    congr 1
    omega
  · have l1 : (2 * q + s).log2 = 62 := (Nat.log2_eq_iff (by omega)).2 ⟨by omega, by omega⟩
    have l2 : (4 * q + d).log2 = 63 := (Nat.log2_eq_iff (by omega)).2 ⟨by omega, by omega⟩
    rw [jr_at (c := 10) (by omega) l1 rfl (by omega) (by omega) (by omega) (by omega), jr_at (c := 11) (by omega) l2 rfl (by omega) (by omega) (by omega) (by omega), rnd10 h]
    congr 1
    omega
end Go.Ab
end
section
namespace Go.Ab
open Go Go.Proofs Go.Proofs.YtiamjfckgmnijaaGreatDoor.Pl
set_option maxRecDepth 100000
theorem bitsL_ge {l : List Int} (hw : Wf l) (h : trim l = l) (hl : l.length ≠ 0) : 1 ≤ bitsL l ∧ (2 : Int) ^ ((bitsL l).toNat - 1) ≤ val l := by
  unfold bitsL
  rw [if_neg hl]
  obtain ⟨m, hm⟩ : ∃ m, l.length = m + 1 := ⟨l.length - 1, by omega⟩
  have wt := top_pos hw h hl
  have wtt := hw.at (l.length - 1)
  rw [show l.length - 1 = m from by omega] at wt wtt ⊢
  obtain ⟨n, hn⟩ := Int.eq_ofNat_of_zero_le (show 0 ≤ l.getD m 0 by omega)
  obtain ⟨ha, hb, hc⟩ := Lib.bitLenAux_bounds 64 n (by omega) (by omega)
  have eV : val l = val (l.take m) + 4294967296 ^ m * l.getD m 0 := by rw [← val_take_at l, List.take_of_length_le (by omega)]
  have hX := (take_lt hw m (by omega))
  have hX0 : 0 ≤ val (l.take m) := val_nonneg (fun x hx => hw x (List.mem_of_mem_take hx))
  have e0 : Lib.bitLen n = Lib.bitLenAux 64 n := rfl
  rw [hn, Int.toNat_natCast] at *
  refine ⟨by omega, ?_⟩
  have e : (32 * ((l.length : Int) - 1) + (Lib.bitLen n : Int)).toNat - 1 = 32 * m + (Lib.bitLen n - 1) := by omega
  rw [e, Int.pow_add, ← pow32, eV]
  have h2 : (2 : Int) ^ (Lib.bitLen n - 1) ≤ n := by
    have : ((2 ^ (Lib.bitLen n - 1) : Nat) : Int) ≤ (n : Int) := Int.ofNat_le.2 hb
    simpa using this
  have h3 : 4294967296 ^ m * 2 ^ (Lib.bitLen n - 1) ≤ 4294967296 ^ m * (n : Int) := Int.mul_le_mul_of_nonneg_left h2 (Int.le_of_lt (pow_pos' m))
  omega
end Go.Ab
end
section
namespace Go.Ab
theorem div_uniq {a b q r : Int} (h : r + b * q = a) (h0 : 0 ≤ r) (h1 : r < b) : a / b = q ∧ a % b = r := (Int.ediv_emod_unique (by omega)).2 ⟨h, h0, h1⟩
theorem near_two {A B A' B' : Int} (hB : 0 < B) (hB' : 0 < B') (h : (A' = 2 * A ∧ B' = B) ∨ (A' = A ∧ B = 2 * B')) :
    ∃ d s : Nat, 2 * (A' / B') + (if A' % B' = 0 then 0 else 1) = 4 * (A / B) + d ∧ (s : Int) = (if A % B = 0 then 0 else 1) ∧ ((d = 0 ∧ s = 0) ∨ (1 ≤ d ∧ d ≤ 3 ∧ s = 1)) := by
  have e := Int.emod_add_mul_ediv A B
  have r0 := Int.emod_nonneg A (show B ≠ 0 by omega)
  have r1 := Int.emod_lt_of_pos A hB
  generalize A / B = q at *
  generalize A % B = r at *
  have key : ∃ β r' : Int, A' / B' = 2 * q + β ∧ A' % B' = r' ∧ ((β = 0 ∧ (r' = 0 ↔ r = 0)) ∨ (β = 1 ∧ r ≠ 0)) := by
    rcases h with ⟨h1, h2⟩ | ⟨h1, h2⟩
    · subst h2
      have e2 : 2 * r + B' * (2 * q) = A' := by rw [h1, ← e, Int.mul_add, Int.mul_left_comm]
      by_cases c : 2 * r < B'
      · obtain ⟨u, v⟩ := div_uniq e2 (by omega) c
        exact ⟨0, 2 * r, by omega, v, .inl ⟨rfl, by omega⟩⟩
      · obtain ⟨u, v⟩ := div_uniq (a := A') (b := B') (q := 2 * q + 1) (r := 2 * r - B') (by rw [Int.mul_add, Int.mul_one]; omega) (by omega) (by omega)
        exact ⟨1, 2 * r - B', u, v, .inr ⟨rfl, by omega⟩⟩
    · have e2 : r + B' * (2 * q) = A' := by rw [h1, ← e, h2, Int.mul_assoc, Int.mul_left_comm B']
      by_cases c : r < B'
      · obtain ⟨u, v⟩ := div_uniq e2 r0 c
        exact ⟨0, r, by omega, v, .inl ⟨rfl, Iff.rfl⟩⟩
      · obtain ⟨u, v⟩ := div_uniq (a := A') (b := B') (q := 2 * q + 1) (r := r - B') (by rw [Int.mul_add, Int.mul_one]; omega) (by omega) (by omega)
        exact ⟨1, r - B', u, v, .inr ⟨rfl, by omega⟩⟩
  obtain ⟨β, r', u, v, w⟩ := key
  rw [u, v]
  rcases w with ⟨w1, w2⟩ | ⟨w1, w2⟩
  · by_cases hr : r = 0
    · exact ⟨0, 0, by rw [if_pos (w2.2 hr)]; omega, by rw [if_pos hr]; rfl, .inl ⟨rfl, rfl⟩⟩
    · exact ⟨1, 1, by rw [if_neg (fun h => hr (w2.1 h))]; omega, by rw [if_neg hr]; rfl, .inr ⟨by omega, by omega, rfl⟩⟩
  · by_cases hr : r' = 0
    · exact ⟨2, 1, by rw [if_pos hr]; omega, by rw [if_neg w2]; rfl, .inr ⟨by omega, by omega, rfl⟩⟩
    · exact ⟨3, 1, by rw [if_neg hr]; omega, by rw [if_neg w2]; rfl, .inr ⟨by omega, by omega, rfl⟩⟩
theorem pw (n : Nat) : (0 : Int) < 2 ^ n := Int.pow_pos (by decide)
theorem near_bd {n d : Int} {bn bd : Nat} {k : Int} (hn1 : 2 ^ (bn - 1) ≤ n) (hn2 : n < 2 ^ bn) (hd1 : 2 ^ (bd - 1) ≤ d) (hd2 : d < 2 ^ bd) (h1 : 1 ≤ bn) (h2 : 1 ≤ bd) (hk : k = 61 - (bn : Int) + bd) :
    2 ^ 60 ≤ n * 2 ^ k.toNat / (d * 2 ^ (-k).toNat) ∧ n * 2 ^ k.toNat / (d * 2 ^ (-k).toNat) < 2 ^ 62 := by
  have pd : 0 < d := Int.lt_of_lt_of_le (pw _) hd1
  have pB : 0 < d * 2 ^ (-k).toNat := Int.mul_pos pd (pw _)
  have a1 : (2 : Int) ^ (bn - 1) * 2 ^ k.toNat ≤ n * 2 ^ k.toNat := Int.mul_le_mul_of_nonneg_right hn1 (Int.le_of_lt (pw _))
  have a2 : n * 2 ^ k.toNat < (2 : Int) ^ bn * 2 ^ k.toNat := Int.mul_lt_mul_of_pos_right hn2 (pw _)
  have b1 : (2 : Int) ^ (bd - 1) * 2 ^ (-k).toNat ≤ d * 2 ^ (-k).toNat := Int.mul_le_mul_of_nonneg_right hd1 (Int.le_of_lt (pw _))
  have b2 : d * 2 ^ (-k).toNat < (2 : Int) ^ bd * 2 ^ (-k).toNat := Int.mul_lt_mul_of_pos_right hd2 (pw _)
  rw [← Int.pow_add] at a1 a2 b1 b2
  generalize n * 2 ^ k.toNat = A at *
  generalize d * 2 ^ (-k).toNat = B at *
  have c1 : (2 : Int) ^ (bn - 1 + k.toNat) = 2 ^ 60 * 2 ^ (bd + (-k).toNat) := by rw [← Int.pow_add]; congr 1; omega
  have c2 : (2 : Int) ^ (bn + k.toNat) = 2 ^ 62 * 2 ^ (bd - 1 + (-k).toNat) := by rw [← Int.pow_add]; congr 1; omega
  constructor
  · rw [Int.le_ediv_iff_mul_le pB]
    rw [c1] at a1
    generalize (2 : Int) ^ (bd + (-k).toNat) = P at *
    omega
  · rw [Int.ediv_lt_iff_lt_mul pB]
    rw [c2] at a2
    generalize (2 : Int) ^ (bd - 1 + (-k).toNat) = P at *
    omega
end Go.Ab
end
section
namespace Go.Ab
open Go Go.Proofs Go.Proofs.YtiamjfckgmnijaaGreatDoor.Pl
set_option maxRecDepth 100000
set_option exponentiation.threshold 5000
set_option maxHeartbeats 8000000
theorem N_two {q : Int} (h1 : 4294967296 ≤ q) (h2 : q < 18446744073709551616) : N q = [q % 4294967296, q / 4294967296] := by
  refine ((N_is (by omega)).unique ⟨?_, ?_, ?_⟩)
  · intro x hx
    simp only [List.mem_cons, List.mem_nil_iff, or_false] at hx
    rcases hx with rfl | rfl <;> omega
  · exact trim_snoc [q % 4294967296] (q / 4294967296) (by omega)
  · simp only [val]
    omega
theorem orQ {q : Int} (h1 : 0 ≤ q) (h2 : q < 4611686018427387904) : bOr .u64 (q / 4294967296 * 4294967296) (q % 4294967296) = q := by
  obtain ⟨m, rfl⟩ := Int.eq_ofNat_of_zero_le h1
  have e := Nat.two_pow_add_eq_or_of_lt (i := 32) (show m % 4294967296 < 2 ^ 32 by omega) (m / 4294967296)
  have e2 : (BitVec.ofInt 64 ((m : Int) / 4294967296 * 4294967296) ||| BitVec.ofInt 64 ((m : Int) % 4294967296)).toNat = m := by
    rw [show (m : Int) / 4294967296 * 4294967296 = ((2 ^ 32 * (m / 4294967296) : Nat) : Int) by omega, show (m : Int) % 4294967296 = ((m % 4294967296 : Nat) : Int) by omega, ofInt_nat, ofInt_nat, BitVec.toNat_or, BitVec.toNat_ofNat, BitVec.toNat_ofNat, Nat.mod_eq_of_lt (by omega), Nat.mod_eq_of_lt (by omega), ← e]
    omega
  show IntKind.u64.wrap ((BitVec.ofInt 64 ((m : Int) / 4294967296 * 4294967296) ||| BitVec.ofInt 64 ((m : Int) % 4294967296)).toNat : Int) = _
  rw [e2, wrapu64 (by omega) (by omega)]
theorem or_1 {q : Int} (h1 : 0 ≤ q) (h2 : q < 4611686018427387904) : bOr .u64 (q * 2) 1 = 2 * q + 1 := by
  obtain ⟨m, rfl⟩ := Int.eq_ofNat_of_zero_le h1
  have e := Nat.two_pow_add_eq_or_of_lt (i := 1) (show 1 < 2 ^ 1 by decide) m
  have e2 : (BitVec.ofInt 64 ((m : Int) * 2) ||| BitVec.ofInt 64 1).toNat = 2 * m + 1 := by
    rw [show (m : Int) * 2 = ((2 ^ 1 * m : Nat) : Int) by omega, show BitVec.ofInt 64 1 = BitVec.ofNat 64 1 by decide, ofInt_nat, BitVec.toNat_or, BitVec.toNat_ofNat, BitVec.toNat_ofNat, Nat.mod_eq_of_lt (by omega), Nat.mod_eq_of_lt (by decide), ← e]
  show IntKind.u64.wrap ((BitVec.ofInt 64 ((m : Int) * 2) ||| BitVec.ofInt 64 1).toNat : Int) = _
  rw [e2, wrapu64 (by omega) (by omega)]
  omega
theorem s_Near_walk (b : Bool) (n d : List Int) (k q : Int) (K1 K2 : Nat) (lx ly : List Int) (Bn Bd : Int) (m : Nat) (L : List AV) (w : Nat) (r : Nat) (hform : Spec Tryz.prog 32 [RA b n d] (.sc (.bool true))) (hn : n.length ≠ 0) (hnl : n.length ≤ 16)
    (cBn : Spec Tryz.prog 33 [U n] (.sc (.int .i64 Bn))) (cBd : Spec Tryz.prog 33 [U d] (.sc (.int .i64 Bd))) (hk : k = 61 - Bn + Bd) (bn1 : 1 ≤ Bn) (bn2 : Bn ≤ 512) (bd1 : 1 ≤ Bd) (bd2 : Bd ≤ 512)
    (hK1 : K1 = k.toNat) (hK2 : K2 = (-k).toNat) (cS1 : Spec Tryz.prog 25 [U n, .sc (.int .i64 K1)] (U lx)) (cS2 : Spec Tryz.prog 25 [U d, .sc (.int .i64 K2)] (U ly))
    (q0 : 0 ≤ q) (q1 : q < 4611686018427387904) (hL : L.length = m)
    (cQ : SpecG Tryz.prog 34 [U lx, U ly] [] (.tup [.hs 1000000 1 0 2 1, .hs 1000001 1 0 m 1]) [(1, [u32 (q % 4294967296), u32 (q / 4294967296)]), (1, L)])
    (hw : (w : Int) = 2 * q + (if m = 0 then 0 else 1)) (cJ : Spec Tryz.prog 24 [.sc (.bool b), u64 w, .sc (.int .i64 (-k - 1))] (f64 r)) :
    Spec Tryz.prog 11 [RA b n d] (.tup [f64 r, .sc (.int .i64 0)]) := by
  refine spec_of_awp mixed Tryz.func11 rfl Tryz.call11 (by kernel_rfl) (by simp) rfl ?_
  refine T (call_by hform ?_)
  refine T (dcall_by0 cBn ?_)
  refine TS (dcall_by0 cBd ?_)
  refine TS ?_
  refine w_cut (α := Unit) (fun _ => [(.t 1, .hp 1 1 0), (.h 1, .blk 1 2 [.sc (.bool b), U n, U d]), (.t 4, .sc (.int .i64 k)), (.t 5, U lx), (.t 6, U ly)]) (fun _ => True) ?_ ?_
  · intro J hJ
    rw [hk] at hJ
    rcases Int.lt_trichotomy k 0 with k0 | k0 | k0
    · refine TM ?_
      refine dcall_eq (congrArg (fun z => [U n, AV.sc (Value.int .i64 z)]) (show (0 : Int) = (K1 : Int) by omega)) cS1 ?_
      refine TM ?_
      refine dcall_eq (congrArg (fun z => [U d, AV.sc (Value.int .i64 z)]) (show 0 - (61 - Bn + Bd) = (K2 : Int) by omega)) cS2 ?_
      refine TM ?_
      exact hJ _ () trivial (Hk rfl <| Hk rfl <| Hk rfl <| Hk rfl <| Hk rfl trivial)
    · refine TM ?_
      refine dcall_eq (congrArg (fun z => [U n, AV.sc (Value.int .i64 z)]) (show 61 - Bn + Bd = (K1 : Int) by omega)) cS1 ?_
      refine TM ?_
      refine dcall_eq (congrArg (fun z => [U d, AV.sc (Value.int .i64 z)]) (show 0 - (61 - Bn + Bd) = (K2 : Int) by omega)) cS2 ?_
      refine TM ?_
      exact hJ _ () trivial (Hk rfl <| Hk rfl <| Hk rfl <| Hk rfl <| Hk rfl trivial)
    · refine TM ?_
      refine dcall_eq (congrArg (fun z => [U n, AV.sc (Value.int .i64 z)]) (show 61 - Bn + Bd = (K1 : Int) by omega)) cS1 ?_
      refine TM ?_
      refine dcall_eq (congrArg (fun z => [U d, AV.sc (Value.int .i64 z)]) (show (0 : Int) = (K2 : Int) by omega)) cS2 ?_
      refine TM ?_
      exact hJ _ () trivial (Hk rfl <| Hk rfl <| Hk rfl <| Hk rfl <| Hk rfl trivial)
  rintro ⟨⟩ r0 _
  refine T ?_
  refine call_g [] false cQ trivial rfl (by simp) (by simp [pOf]) rfl rfl rfl nofun ?_
  refine T ?_
  rw [show q / 4294967296 * 4294967296 + q % 4294967296 = q by omega]
  by_cases hm : m = 0
  · rw [if_pos hm] at hw
    refine T ?_
    refine call_eq (show [AV.sc (.bool b), AV.sc (.int .u64 (q * 2)), AV.sc (.int .i64 (0 - k - 1))] = [AV.sc (.bool b), u64 w, AV.sc (.int .i64 (-k - 1))] by rw [show q * 2 = (w : Int) by omega, show 0 - k - 1 = -k - 1 by omega]) cJ ?_
    refine T (r_ret ?_)
    rw [Tryz.results11]
    refine R ?_
    exact Wk.refl _
  · rw [if_neg hm] at hw
    refine T ?_
    rw [or_1 q0 q1]
    refine call_eq (show [AV.sc (.bool b), AV.sc (.int .u64 (2 * q + 1)), AV.sc (.int .i64 (0 - k - 1))] = [AV.sc (.bool b), u64 w, AV.sc (.int .i64 (-k - 1))] by rw [show 2 * q + 1 = (w : Int) by omega, show 0 - k - 1 = -k - 1 by omega]) cJ ?_
    refine T (r_ret ?_)
    rw [Tryz.results11]
    refine R ?_
    exact Wk.refl _
theorem s_Near_walk0 (b : Bool) (n d : List Int) (k q : Int) (K1 K2 : Nat) (lx ly : List Int) (Bn Bd : Int) (w : Nat) (r : Nat) (hform : Spec Tryz.prog 32 [RA b n d] (.sc (.bool true))) (hn : n.length ≠ 0) (hnl : n.length ≤ 16)
    (cBn : Spec Tryz.prog 33 [U n] (.sc (.int .i64 Bn))) (cBd : Spec Tryz.prog 33 [U d] (.sc (.int .i64 Bd))) (hk : k = 61 - Bn + Bd) (bn1 : 1 ≤ Bn) (bn2 : Bn ≤ 512) (bd1 : 1 ≤ Bd) (bd2 : Bd ≤ 512)
    (hK1 : K1 = k.toNat) (hK2 : K2 = (-k).toNat) (cS1 : Spec Tryz.prog 25 [U n, .sc (.int .i64 K1)] (U lx)) (cS2 : Spec Tryz.prog 25 [U d, .sc (.int .i64 K2)] (U ly))
    (q0 : 0 ≤ q) (q1 : q < 4611686018427387904)
    (cQ : SpecG Tryz.prog 34 [U lx, U ly] [] (.tup [.hs 1000000 1 0 2 1, .sc (.slice none 0 0)]) [(1, [u32 (q % 4294967296), u32 (q / 4294967296)])])
    (hw : (w : Int) = 2 * q) (cJ : Spec Tryz.prog 24 [.sc (.bool b), u64 w, .sc (.int .i64 (-k - 1))] (f64 r)) :
    Spec Tryz.prog 11 [RA b n d] (.tup [f64 r, .sc (.int .i64 0)]) := by
  refine spec_of_awp mixed Tryz.func11 rfl Tryz.call11 (by kernel_rfl) (by simp) rfl ?_
  refine T (call_by hform ?_)
  refine T (dcall_by0 cBn ?_)
  refine TS (dcall_by0 cBd ?_)
  refine TS ?_
  refine w_cut (α := Unit) (fun _ => [(.t 1, .hp 1 1 0), (.h 1, .blk 1 2 [.sc (.bool b), U n, U d]), (.t 4, .sc (.int .i64 k)), (.t 5, U lx), (.t 6, U ly)]) (fun _ => True) ?_ ?_
  · intro J hJ
    rw [hk] at hJ
    rcases Int.lt_trichotomy k 0 with k0 | k0 | k0
    · refine TM ?_
      refine dcall_eq (congrArg (fun z => [U n, AV.sc (Value.int .i64 z)]) (show (0 : Int) = (K1 : Int) by omega)) cS1 ?_
      refine TM ?_
      refine dcall_eq (congrArg (fun z => [U d, AV.sc (Value.int .i64 z)]) (show 0 - (61 - Bn + Bd) = (K2 : Int) by omega)) cS2 ?_
      refine TM ?_
      exact hJ _ () trivial (Hk rfl <| Hk rfl <| Hk rfl <| Hk rfl <| Hk rfl trivial)
    · refine TM ?_
      refine dcall_eq (congrArg (fun z => [U n, AV.sc (Value.int .i64 z)]) (show 61 - Bn + Bd = (K1 : Int) by omega)) cS1 ?_
      refine TM ?_
      refine dcall_eq (congrArg (fun z => [U d, AV.sc (Value.int .i64 z)]) (show 0 - (61 - Bn + Bd) = (K2 : Int) by omega)) cS2 ?_
      refine TM ?_
      exact hJ _ () trivial (Hk rfl <| Hk rfl <| Hk rfl <| Hk rfl <| Hk rfl trivial)
    · refine TM ?_
      refine dcall_eq (congrArg (fun z => [U n, AV.sc (Value.int .i64 z)]) (show 61 - Bn + Bd = (K1 : Int) by omega)) cS1 ?_
      refine TM ?_
      refine dcall_eq (congrArg (fun z => [U d, AV.sc (Value.int .i64 z)]) (show (0 : Int) = (K2 : Int) by omega)) cS2 ?_
      refine TM ?_
      exact hJ _ () trivial (Hk rfl <| Hk rfl <| Hk rfl <| Hk rfl <| Hk rfl trivial)
  rintro ⟨⟩ r0 _
  refine T ?_
  refine call_g [] false cQ trivial rfl (by simp) (by simp [pOf]) rfl rfl rfl nofun ?_
  refine T ?_
  rw [show q / 4294967296 * 4294967296 + q % 4294967296 = q by omega]
  refine T ?_
  refine call_eq (show [AV.sc (.bool b), AV.sc (.int .u64 (q * 2)), AV.sc (.int .i64 (0 - k - 1))] = [AV.sc (.bool b), u64 w, AV.sc (.int .i64 (-k - 1))] by rw [show q * 2 = (w : Int) by omega, show 0 - k - 1 = -k - 1 by omega]) cJ ?_
  refine T (r_ret ?_)
  rw [Tryz.results11]
  refine R ?_
  exact Wk.refl _
end Go.Ab
end
section
namespace Go.Ab
open Go Go.Proofs Go.Proofs.YtiamjfckgmnijaaGreatDoor.Pl
set_option maxRecDepth 100000
set_option exponentiation.threshold 5000
set_option maxHeartbeats 8000000
theorem w_joinN {P : Program} {B : Nat} {x : Code} {N : S → Prop} {Q : Exit → S → Prop} {s : S} {α : Type} (l : α → List (Loc × AV)) (C : α → Prop) (h1 : ∀ J : S → Prop, (∀ s a, C a → Has (l a) s → J s) → AWP P B x (thenQ J Q) s) (h2 : ∀ a r, C a → N (kn (l a) r)) : AWP P B x (thenQ N Q) s := by
  refine AWP.mono x ?_ (h1 (fun s => ∃ a, C a ∧ Has (l a) s) fun s a hc hh => ⟨a, hc, hh⟩)
  intro e s h
  cases e with
  | normal =>
    obtain ⟨a, hc, hh⟩ := h
    have := h2 a s hc
    rwa [kn_self hh] at this
  | _ => exact h
theorem q_Near_walk (b : Bool) (n d : List Int) (k q : Int) (lx ly rs : List Int) (Bn Bd : Int) (w : Nat) (r : Nat) (hform : Spec Tryz.prog 15 [RA b n d] (.sc (.bool true))) (hn : n.length ≠ 0) (hnl : n.length ≤ 16) (hRl : rs.length ≤ 100)
    (cBn : Spec Tryz.prog 35 [U n] (.sc (.int .i64 Bn))) (cBd : Spec Tryz.prog 35 [U d] (.sc (.int .i64 Bd))) (hk : k = 62 - Bn + Bd) (bn1 : 1 ≤ Bn) (bn2 : Bn ≤ 512) (bd1 : 1 ≤ Bd) (bd2 : Bd ≤ 512)
    (cS1 : 0 ≤ k → Spec Tryz.prog 30 [U n, .sc (.int .i64 k)] (U lx) ∧ ly = d) (cS2 : k < 0 → Spec Tryz.prog 30 [U d, .sc (.int .i64 (0 - k))] (U ly) ∧ lx = n)
    (q0 : 0 ≤ q) (q1 : q < 9223372036854775808) (cD : Spec Tryz.prog 36 [U lx, U ly] (.tup [U [q % 4294967296, q / 4294967296], U rs]))
    (hw : (w : Int) = 2 * q + (if rs.length = 0 then 0 else 1)) (cJ : Spec Tryz.prog 37 [.sc (.bool b), u64 w, .sc (.int .i64 (-k - 1))] (u64 r)) :
    Spec Tryz.prog 13 [RA b n d] (.tup [u64 r, .sc (.int .i64 0)]) := by
  refine spec_of_awp mixed Tryz.func13 rfl Tryz.call13 (by kernel_rfl) (by simp) rfl ?_
  refine T (call_by hform ?_)
  refine T (dcall_by0 cBn ?_)
  refine TS (dcall_by0 cBd ?_)
  refine TS ?_
  refine w_seq ?_
  refine TS ?_
  refine w_joinN (α := Unit) (fun _ => [(.t 1, .hp 1 1 0), (.h 1, .blk 1 2 [.sc (.bool b), U n, U d]), (.t 4, .sc (.int .i64 k)), (.t 5, U lx), (.t 6, U ly)]) (fun _ => True) ?_ ?_
  · intro J hJ
    rcases Int.lt_or_le k 0 with k0 | k0
    · obtain ⟨c1, rfl⟩ := cS2 k0
      rw [hk] at hJ c1
      refine T (call_by c1 ?_)
      refine T ?_
      exact hJ _ () trivial (Hk rfl <| Hk rfl <| Hk rfl <| Hk rfl <| Hk rfl trivial)
    · obtain ⟨c1, rfl⟩ := cS1 k0
      rw [hk] at hJ c1
      refine T (call_by c1 ?_)
      refine T ?_
      exact hJ _ () trivial (Hk rfl <| Hk rfl <| Hk rfl <| Hk rfl <| Hk rfl trivial)
  rintro ⟨⟩ r0 _
  refine T (call_by cD ?_)
  refine T (w_loop (α := Nat) (fun j => [(.t 1, .hp 1 1 0), (.h 1, .blk 1 2 [.sc (.bool b), U n, U d]), (.t 4, .sc (.int .i64 k)), (.t 7, U [q % 4294967296, q / 4294967296]), (.t 8, U rs), (.t 9, .sc (.int .u64 (if j = 0 then 0 else if j = 1 then q / 4294967296 else q))), (.t 10, .sc (.int .i64 (1 - (j : Int))))]) (fun j => j ≤ 2) (fun j => 2 - j) 0 (by omega) ?_ ?_)
  · exact Hk rfl <| Hk rfl <| Hk rfl <| Hk rfl <| Hk rfl <| Hk rfl <| Hk rfl trivial
  rintro j r1 hj J hJ
  rcases j with _ | _ | j
  · refine T ?_
    rw [show ([u32 (q % 4294967296), u32 (q / 4294967296)] : List AV)[((1 : Int) - 0).toNat]? = some (u32 (q / 4294967296)) from rfl]
    refine T ?_
    exact hJ _ 1 (by omega) (by omega) (Hk rfl <| Hk rfl <| Hk rfl <| Hk rfl <| Hk rfl <| Hk (congrArg (fun z => AV.sc (Value.int .u64 z)) (by show _ = q / 4294967296; omega)) <| Hk (congrArg (fun z => AV.sc (Value.int .i64 z)) (by omega)) trivial)
  · refine T ?_
    rw [show ([u32 (q % 4294967296), u32 (q / 4294967296)] : List AV)[((1 : Int) - 1).toNat]? = some (u32 (q % 4294967296)) from rfl]
    refine T ?_
    exact hJ _ 2 (by omega) (by omega) (Hk rfl <| Hk rfl <| Hk rfl <| Hk rfl <| Hk rfl <| Hk (congrArg (fun z => AV.sc (Value.int .u64 z)) (by show _ = q; omega)) <| Hk (congrArg (fun z => AV.sc (Value.int .i64 z)) (by omega)) trivial)
  · have hj0 : j = 0 := by omega
    subst hj0
    clear cBn cBd cS1 cS2 cD hform
    by_cases hm : rs.length = 0
    · rw [if_pos hm] at hw
      refine T ?_
      refine call_eq (show [AV.sc (.bool b), AV.sc (.int .u64 (2 * q)), AV.sc (.int .i64 (0 - k - 1))] = [AV.sc (.bool b), u64 w, AV.sc (.int .i64 (-k - 1))] by rw [show 2 * q = (w : Int) by omega, show 0 - k - 1 = -k - 1 by omega]) cJ ?_
      refine T (r_ret ?_)
      rw [Tryz.results13]
      refine R ?_
      exact Wk.refl _
    · rw [if_neg hm] at hw
      refine T ?_
      refine call_eq (show [AV.sc (.bool b), AV.sc (.int .u64 (2 * q + 1)), AV.sc (.int .i64 (0 - k - 1))] = [AV.sc (.bool b), u64 w, AV.sc (.int .i64 (-k - 1))] by rw [show 2 * q + 1 = (w : Int) by omega, show 0 - k - 1 = -k - 1 by omega]) cJ ?_
      refine T (r_ret ?_)
      rw [Tryz.results13]
      refine R ?_
      exact Wk.refl _
end Go.Ab
end
section
namespace Go.Ab
open Go Go.Proofs Go.Proofs.YtiamjfckgmnijaaGreatDoor.Pl
set_option maxRecDepth 100000
set_option exponentiation.threshold 5000
set_option maxHeartbeats 4000000
theorem len_of {A : Int} {t : Nat} (h0 : 0 ≤ A) (h : A < 2 ^ t) (ht : t ≤ 3200) : (N A).length ≤ 100 := by
  refine (N_is h0).len ?_
  obtain ⟨K, hK⟩ : ∃ K : Nat, K = 32 * 100 := ⟨_, rfl⟩
  rw [show (4294967296 : Int) = 2 ^ 32 by decide, ← Int.pow_mul, ← hK]
  have h2 : ((2 ^ t : Nat) : Int) ≤ ((2 ^ K : Nat) : Int) := Int.ofNat_le.2 (Nat.pow_le_pow_right (by decide) (by omega))
  rw [Int.natCast_pow, Int.natCast_pow] at h2
  exact Int.lt_of_lt_of_le h h2
theorem N_len0 {x : Int} (h : 0 ≤ x) : (N x).length = 0 ↔ x = 0 := by
  constructor
  · intro e
    rw [← N_val h, List.eq_nil_of_length_eq_zero e]
    rfl
  · rintro rfl
    rw [N_zero]
    rfl
theorem near_main (b : Bool) (n d : List Int) (hn : Wf n) (hd : Wf d) (hf : formB b n d = true) (hn0 : n.length ≠ 0) : ∃ r : Nat, Spec Tryz.prog 11 [RA b n d] (.tup [f64 r, .sc (.int .i64 0)]) ∧ Spec Tryz.prog 13 [RA b n d] (.tup [u64 r, .sc (.int .i64 0)]) := by
  have hF := of_decide_eq_true hf
  obtain ⟨f1, f2, f3, _, _⟩ := hF
  obtain ⟨ln, tn⟩ := of_decide_eq_true f1
  obtain ⟨ld, td⟩ := of_decide_eq_true f2
  have eN : N (val n) = n := (Is.toN ⟨hn, tn, rfl⟩).symm
  have eD : N (val d) = d := (Is.toN ⟨hd, td, rfl⟩).symm
  have bdn := bitsL_bd hn
  have bdd := bitsL_bd hd
  obtain ⟨n1, n2⟩ := bitsL_ge hn tn hn0
  obtain ⟨d1, d2⟩ := bitsL_ge hd td f3
  have n3 := bitsL_lt hn tn
  have d3 := bitsL_lt hd td
  have cBn := s_Bits n hn (by omega)
  have cBd := s_Bits d hd (by omega)
  have cQn := q_Bits n hn (by omega)
  have cQd := q_Bits d hd (by omega)
  rw [eN] at cBn cQn
  rw [eD] at cBd cQd
  generalize bitsL n = Bn at *
  generalize bitsL d = Bd at *
  obtain ⟨bn, rfl⟩ := Int.eq_ofNat_of_zero_le bdn.1
  obtain ⟨bd, rfl⟩ := Int.eq_ofNat_of_zero_le bdd.1
  simp only [Int.toNat_natCast] at n2 n3 d2 d3
  have u0 : 0 < val n := Int.lt_of_lt_of_le (pw _) n2
  have v0 : 0 < val d := Int.lt_of_lt_of_le (pw _) d2
  obtain ⟨k, hk⟩ : ∃ k : Int, k = 61 - (bn : Int) + bd := ⟨_, rfl⟩
  obtain ⟨nb1, nb2⟩ := near_bd n2 n3 d2 d3 (by omega) (by omega) hk
  have pA : 0 < val n * 2 ^ k.toNat := Int.mul_pos u0 (pw _)
  have pB : 0 < val d * 2 ^ (-k).toNat := Int.mul_pos v0 (pw _)
  have cS1 := s_Shl n k.toNat hn (by omega) (by omega)
  have cS2 := s_Shl d (-k).toNat hd (by omega) (by omega)
  have lA : (N (val n * 2 ^ k.toNat)).length ≤ 100 := len_of (Int.le_of_lt pA) (t := bn + k.toNat) (by rw [Int.pow_add]; exact Int.mul_lt_mul_of_pos_right n3 (pw _)) (by omega)
  have lB : (N (val d * 2 ^ (-k).toNat)).length ≤ 100 := len_of (Int.le_of_lt pB) (t := bd + (-k).toNat) (by rw [Int.pow_add]; exact Int.mul_lt_mul_of_pos_right d3 (pw _)) (by omega)
  obtain ⟨A', B', lx, ly, hA', hB', vx, vy, wx, wy, llx, lly, hAB, c1, c2⟩ : ∃ (A' B' : Int) (lx ly : List Int), 0 ≤ A' ∧ 0 < B' ∧ val lx = A' ∧ val ly = B' ∧ Wf lx ∧ Wf ly ∧ lx.length ≤ 100 ∧ ly.length ≤ 100 ∧ ((A' = 2 * (val n * 2 ^ k.toNat) ∧ B' = val d * 2 ^ (-k).toNat) ∨ (A' = val n * 2 ^ k.toNat ∧ val d * 2 ^ (-k).toNat = 2 * B')) ∧
      (0 ≤ k + 1 → Spec Tryz.prog 30 [U n, .sc (.int .i64 (k + 1))] (U lx) ∧ ly = d) ∧ (k + 1 < 0 → Spec Tryz.prog 30 [U d, .sc (.int .i64 (0 - (k + 1)))] (U ly) ∧ lx = n) := by
    by_cases k0 : 0 ≤ k + 1
    · have sh := q_Shl n (k + 1).toNat hn (by omega) (by omega)
      rw [Int.toNat_of_nonneg k0] at sh
      have pA' : 0 < val n * 2 ^ (k + 1).toNat := Int.mul_pos u0 (pw _)
      refine ⟨val n * 2 ^ (k + 1).toNat, val d, N (val n * 2 ^ (k + 1).toNat), d, Int.le_of_lt pA', v0, N_val (Int.le_of_lt pA'), rfl, N_wf _, hd, len_of (Int.le_of_lt pA') (t := bn + (k + 1).toNat) (by rw [Int.pow_add]; exact Int.mul_lt_mul_of_pos_right n3 (pw _)) (by omega), by omega, ?_, fun _ => ⟨sh, rfl⟩, fun h => by omega⟩
      by_cases k1 : 0 ≤ k
      · left
        rw [show (k + 1).toNat = k.toNat + 1 by omega, show (-k).toNat = 0 by omega, Int.pow_succ, Int.pow_zero, Int.mul_one]
        exact ⟨by rw [← Int.mul_assoc, Int.mul_comm], rfl⟩
      · right
        rw [show (k + 1).toNat = 0 by omega, show k.toNat = 0 by omega, show (-k).toNat = 1 by omega]
        exact ⟨rfl, by rw [Int.pow_one, Int.mul_comm]⟩
    · have sh := q_Shl d (0 - (k + 1)).toNat hd (by omega) (by omega)
      rw [Int.toNat_of_nonneg (by omega)] at sh
      have pB' : 0 < val d * 2 ^ (0 - (k + 1)).toNat := Int.mul_pos v0 (pw _)
      refine ⟨val n, val d * 2 ^ (0 - (k + 1)).toNat, n, N (val d * 2 ^ (0 - (k + 1)).toNat), Int.le_of_lt u0, pB', rfl, N_val (Int.le_of_lt pB'), hn, N_wf _, by omega, len_of (Int.le_of_lt pB') (t := bd + (0 - (k + 1)).toNat) (by rw [Int.pow_add]; exact Int.mul_lt_mul_of_pos_right d3 (pw _)) (by omega), ?_, fun h => by omega, fun _ => ⟨sh, rfl⟩⟩
      right
      rw [show k.toNat = 0 by omega, Int.pow_zero, Int.mul_one, show (-k).toNat = (0 - (k + 1)).toNat + 1 by omega, Int.pow_succ]
      exact ⟨rfl, by rw [← Int.mul_assoc, Int.mul_comm]⟩
  obtain ⟨δ, s, t1, t2, t3⟩ := near_two pB hB' hAB
  have cD := q_Divide lx ly wx wy (by omega) (by omega) (by omega)
  rw [vx, vy] at cD
  have r0 := Int.emod_nonneg (val n * 2 ^ k.toNat) (show val d * 2 ^ (-k).toNat ≠ 0 by omega)
  have r0' := Int.emod_nonneg A' (show B' ≠ 0 by omega)
  have rl' : (N (A' % B')).length ≤ 100 := by
    have h1 := Int.emod_lt_of_pos A' hB'
    exact Nat.le_trans ((N_is r0').len (Int.lt_of_lt_of_le h1 (by rw [← vy]; exact Int.le_of_lt (val_lt wy)))) lly
  have fS := s_Form b n d hn hd (by omega) (by omega)
  have fQ := q2_Form b n d hn hd (by omega) (by omega)
  rw [hf] at fS fQ
  have hge : ¬ val n * 2 ^ k.toNat < val d * 2 ^ (-k).toNat := by
    intro h
    rw [Int.ediv_eq_zero_of_lt (Int.le_of_lt pA) h] at nb1
    omega
  clear hAB
  generalize val n * 2 ^ k.toNat = A at *
  generalize val d * 2 ^ (-k).toNat = B at *
  obtain ⟨qn, hq⟩ : ∃ qn : Nat, A / B = qn := ⟨(A / B).toNat, by omega⟩
  have q'b : 2305843009213693952 ≤ A' / B' ∧ A' / B' < 9223372036854775808 := by
    split at t1 <;> omega
  have hs : s ≤ 1 := by omega
  have hw : ((2 * qn + s : Nat) : Int) = 2 * (A / B) + (if (N (A % B)).length = 0 then 0 else 1) := by
    by_cases h : A % B = 0
    · rw [if_pos ((N_len0 r0).2 h)]
      rw [if_pos h] at t2
      omega
    · rw [if_neg (fun e => h ((N_len0 r0).1 e))]
      rw [if_neg h] at t2
      omega
  have hw' : ((4 * qn + δ : Nat) : Int) = 2 * (A' / B') + (if (N (A' % B')).length = 0 then 0 else 1) := by
    by_cases h : A' % B' = 0
    · rw [if_pos ((N_len0 r0').2 h)]
      rw [if_pos h] at t1
      omega
    · rw [if_neg (fun e => h ((N_len0 r0').1 e))]
      rw [if_neg h] at t1
      omega
  have cJ := s_Join b (2 * qn + s) (-k - 1) (by omega) (by omega)
  have cJ' := q_Join b (4 * qn + δ) (-(k + 1) - 1) (by omega)
  rw [show -(k + 1) - 1 = -k - 1 - 1 by omega, near_eq (q := qn) (d := δ) (s := s) (e := -k - 1) (by omega) (by omega) t3 (by omega) (by omega)] at cJ'
  rw [N_two (q := A' / B') (by omega) (by omega)] at cD
  refine ⟨sw b (jr (2 * qn + s) (-k - 1)), ?_, ?_⟩
  · have eq2 := N_two (q := A / B) (by omega) (by omega)
    by_cases hd1 : (trim (N B)).length = 1
    · have g := g_QR2 (N A) (N B) (N_wf _) (N_wf _) (by omega) (by omega) (by rw [N_val (Int.le_of_lt pB)]; omega) (by rw [N_val (Int.le_of_lt pA), N_val (Int.le_of_lt pB)]; exact hge) hd1
      rw [N_val (Int.le_of_lt pA), N_val (Int.le_of_lt pB), eq2] at g
      exact s_Near_walk b n d k (A / B) k.toNat (-k).toNat (N A) (N B) bn bd (N (A % B)).length ((N (A % B)).map u32) (2 * qn + s) _ fS hn0 ln cBn cBd hk (by omega) (by omega) (by omega) (by omega) rfl rfl cS1 cS2 (by omega) (by omega) (by simp) g hw cJ
    · by_cases hr : A % B = 0
      · have g := g_QR4 (N A) (N B) (N_wf _) (N_wf _) (by omega) (by omega) (by rw [N_val (Int.le_of_lt pB)]; omega) (by rw [N_val (Int.le_of_lt pA), N_val (Int.le_of_lt pB)]; exact hge) hd1 (by rw [N_val (Int.le_of_lt pA), N_val (Int.le_of_lt pB)]; exact hr)
        rw [N_val (Int.le_of_lt pA), N_val (Int.le_of_lt pB), eq2] at g
        rw [if_pos ((N_len0 r0).2 hr), Int.add_zero] at hw
        exact s_Near_walk0 b n d k (A / B) k.toNat (-k).toNat (N A) (N B) bn bd (2 * qn + s) _ fS hn0 ln cBn cBd hk (by omega) (by omega) (by omega) (by omega) rfl rfl cS1 cS2 (by omega) (by omega) g hw cJ
      · have g := g_QR3 (N A) (N B) (N_wf _) (N_wf _) (by omega) (by omega) (by rw [N_val (Int.le_of_lt pB)]; omega) (by rw [N_val (Int.le_of_lt pA), N_val (Int.le_of_lt pB)]; exact hge) hd1 (by rw [N_val (Int.le_of_lt pA), N_val (Int.le_of_lt pB)]; exact hr)
        rw [N_val (Int.le_of_lt pA), N_val (Int.le_of_lt pB), eq2] at g
        exact s_Near_walk b n d k (A / B) k.toNat (-k).toNat (N A) (N B) bn bd (N (A % B)).length ((N (A % B)).map u32) (2 * qn + s) _ fS hn0 ln cBn cBd hk (by omega) (by omega) (by omega) (by omega) rfl rfl cS1 cS2 (by omega) (by omega) (by simp) g hw cJ
  · exact q_Near_walk b n d (k + 1) (A' / B') lx ly (N (A' % B')) bn bd (4 * qn + δ) _ fQ hn0 ln rl' cQn cQd (by omega) (by omega) (by omega) (by omega) (by omega) c1 c2 (by omega) (by omega) cD hw' (by rw [show -(k + 1) - 1 = -k - 1 - 1 by omega]; exact cJ')
theorem s_NearA (b : Bool) (n d : List Int) (hn : Wf n) (hd : Wf d) (ln : n.length ≤ 35184372088832) (ld : d.length ≤ 35184372088832) (hf : formB b n d = false) : Spec Tryz.prog 11 [RA b n d] (.tup [f64 0, .sc (.int .i64 20)]) ∧ Spec Tryz.prog 13 [RA b n d] (.tup [u64 0, .sc (.int .i64 20)]) := by
  have fS := s_Form b n d hn hd (by omega) (by omega)
  have fQ := q2_Form b n d hn hd (by omega) (by omega)
  rw [hf] at fS fQ
  constructor
  · refine spec_of_awp mixed Tryz.func11 rfl Tryz.call11 (by kernel_rfl) (by simp) rfl ?_
    refine T (call_by fS ?_)
    exact TR rfl
  · refine spec_of_awp mixed Tryz.func13 rfl Tryz.call13 (by kernel_rfl) (by simp) rfl ?_
    refine T (call_by fQ ?_)
    exact TR rfl
theorem s_NearB (b : Bool) (n d : List Int) (hn : Wf n) (hd : Wf d) (ln : n.length ≤ 35184372088832) (ld : d.length ≤ 35184372088832) (hf : formB b n d = true) (h0 : n.length = 0) : Spec Tryz.prog 11 [RA b n d] (.tup [f64 0, .sc (.int .i64 0)]) ∧ Spec Tryz.prog 13 [RA b n d] (.tup [u64 0, .sc (.int .i64 0)]) := by
  have fS := s_Form b n d hn hd (by omega) (by omega)
  have fQ := q2_Form b n d hn hd (by omega) (by omega)
  rw [hf] at fS fQ
  constructor
  · refine spec_of_awp mixed Tryz.func11 rfl Tryz.call11 (by kernel_rfl) (by simp) rfl ?_
    refine T (call_by fS ?_)
    exact TR rfl
  · refine spec_of_awp mixed Tryz.func13 rfl Tryz.call13 (by kernel_rfl) (by simp) rfl ?_
    refine T (call_by fQ ?_)
    exact TR rfl
theorem near_all (b : Bool) (n d : List Int) (hn : Wf n) (hd : Wf d) (ln : n.length ≤ 35184372088832) (ld : d.length ≤ 35184372088832) : ∃ (r : Nat) (e : Int), Spec Tryz.prog 11 [RA b n d] (.tup [f64 r, .sc (.int .i64 e)]) ∧ Spec Tryz.prog 13 [RA b n d] (.tup [u64 r, .sc (.int .i64 e)]) := by
  by_cases hf : formB b n d = true
  · by_cases h0 : n.length = 0
    · exact ⟨0, 0, s_NearB b n d hn hd ln ld hf h0⟩
    · obtain ⟨r, c⟩ := near_main b n d hn hd hf h0
      exact ⟨r, 0, c⟩
  · exact ⟨0, 20, s_NearA b n d hn hd ln ld (by simpa using hf)⟩
theorem l_FloatsNear (hw : Spec Tryz.prog 6 [] (.sc (.bool true))) (p : RT) (hp : RW p) (hl : p.2.1.length ≤ 35184372088832 ∧ p.2.2.length ≤ 35184372088832) : Spec Tryz.prog 4 [RA p.1 p.2.1 p.2.2] (.sc (.bool true)) := by
  have cC := q2_Copy p hl
  obtain ⟨b, n, d⟩ := p
  simp only at cC hl hp ⊢
  obtain ⟨r, e, c1, c2⟩ := near_all b n d hp.1 hp.2 hl.1 hl.2
  refine spec_of_awp mixed Tryz.func4 rfl Tryz.call4 (by kernel_rfl) (by simp) rfl ?_
  refine T (call_by hw ?_)
  refine T (call_by cC ?_)
  refine T (call_by c1 ?_)
  refine T (call_by c2 ?_)
  refine T (call_by (s_bits r) ?_)
  exact TR rfl
end Go.Ab
end
