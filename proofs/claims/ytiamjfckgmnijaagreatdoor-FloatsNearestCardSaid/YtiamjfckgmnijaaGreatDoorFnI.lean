import Derived.Test.YtiamjfckgmnijaaGreatDoorFnH
import Derived.Lib.BitFns
import Derived.Test.YtiamjfckgmnijaaGreatDoorFnA
set_option linter.all false
section
namespace Go.Ab
open Go Go.Proofs Go.Proofs.YtiamjfckgmnijaaGreatDoor.Pl
set_option maxRecDepth 100000
set_option maxHeartbeats 4000000
theorem top32 {n : Nat} (h : n < 4294967296) : n / 2147483648 = if n.testBit 31 then 1 else 0 := by
  rw [Nat.testBit_eq_decide_div_mod_eq]
  by_cases h1 : n / 2 ^ 31 % 2 = 1
  · rw [decide_eq_true h1]; simp; omega
  · rw [decide_eq_false h1]; simp; omega
theorem bit31 {n : Nat} (h : n < 4294967296) : n.testBit 31 = decide (2147483648 ≤ n) := by
  rw [Nat.testBit_eq_decide_div_mod_eq]
  by_cases h1 : 2147483648 ≤ n
  · rw [decide_eq_true h1]; simp; omega
  · rw [decide_eq_false h1]; simp; omega
theorem not31 {n : Nat} (h : n < 4294967296) : (4294967295 ^^^ n).testBit 31 = !decide (2147483648 ≤ n) := by
  rw [Nat.testBit_xor, bit31 h, bit31 (by decide)]; simp
theorem borrow {m n : Nat} {c : Int} (hm : m < 4294967296) (hn : n < 4294967296) (hc : 0 ≤ c) (hc' : c < 2) :
    bOr .u32 (bAnd .u32 (bNot .u32 m) n) (bAnd .u32 (bNot .u32 (bXor .u32 m n)) (((m : Int) - n - c) % 4294967296)) / 2147483648 = if (m : Int) < n + c then 1 else 0 := by
  obtain ⟨d, hd2⟩ := Int.eq_ofNat_of_zero_le (show 0 ≤ ((m : Int) - n - c) % 4294967296 by omega)
  have hdl : d < 4294967296 := by omega
  have hmn : m ^^^ n < 4294967296 := Nat.xor_lt_two_pow (n := 32) hm hn
  have hnm : 4294967295 ^^^ m < 4294967296 := Nat.xor_lt_two_pow (n := 32) (by decide) hm
  have hnmn : 4294967295 ^^^ (m ^^^ n) < 4294967296 := Nat.xor_lt_two_pow (n := 32) (by decide) hmn
  have ha1 : (4294967295 ^^^ m) &&& n < 4294967296 := Nat.lt_of_le_of_lt Nat.and_le_right hn
  have ha2 : (4294967295 ^^^ (m ^^^ n)) &&& d < 4294967296 := Nat.lt_of_le_of_lt Nat.and_le_right hdl
  have ho : ((4294967295 ^^^ m) &&& n) ||| ((4294967295 ^^^ (m ^^^ n)) &&& d) < 4294967296 := Nat.or_lt_two_pow (n := 32) ha1 ha2
  rw [hd2, not32 hm, xor32 hm hn, not32 hmn, and32 hnm hn, and32 hnmn hdl, or32 ha1 ha2]
  have ht := top32 ho
  have hb : (((4294967295 ^^^ m) &&& n) ||| ((4294967295 ^^^ (m ^^^ n)) &&& d)).testBit 31 = decide ((m : Int) < n + c) := by
    rw [Nat.testBit_or, Nat.testBit_and, Nat.testBit_and, not31 hm, Nat.testBit_xor, Nat.testBit_xor, bit31 hm, bit31 hn, bit31 hdl, bit31 (show 4294967295 < 4294967296 by decide)]
    by_cases c1 : 2147483648 ≤ m <;> by_cases c2 : 2147483648 ≤ n <;> by_cases c3 : 2147483648 ≤ d <;> simp only [c1, c2, c3, decide_true, decide_false] <;> (by_cases c4 : (m : Int) < n + c <;> simp only [c4, decide_true, decide_false] <;> first | rfl | omega)
  rw [hb] at ht
  by_cases c4 : (m : Int) < n + c
  · rw [if_pos c4]
    rw [decide_eq_true c4] at ht
    simp at ht
    omega
  · rw [if_neg c4]
    rw [decide_eq_false c4] at ht
    simp at ht
    omega
theorem s_Len32 (x : Int) (hx : 0 ≤ x) (hx' : x < 4294967296) : Spec Tryz.prog 66 [u32 x] (.sc (.int .i64 (Lib.bitLen x.toNat))) := by
  refine spec_of_awp mixed Tryz.func66 rfl Tryz.call66 (by kernel_rfl) (by simp) rfl ?_
  have tab : ∀ n : Nat, n < 256 → Lib.bitLen n ≤ 8 := fun n h => Lib.bitLen_le n 8 (by decide) h
  by_cases h1 : 65536 ≤ x
  · by_cases h2 : 256 ≤ x / 65536
    · refine T ?_
      refine ix_tab Lib.bitLen rfl (by decide +kernel) (by omega) (by omega) ?_
      have t1 := tab (x / 65536 / 256).toNat (by omega)
      have e := Lib.bitLen_shift24 x.toNat (by omega) (by omega)
      rw [show x.toNat / 16777216 = (x / 65536 / 256).toNat by omega] at e
      refine TR ?_
      rw [e]; simp
    · refine T ?_
      refine ix_tab Lib.bitLen rfl (by decide +kernel) (by omega) (by omega) ?_
      have t1 := tab (x / 65536).toNat (by omega)
      have e := Lib.bitLen_shift16 x.toNat (by omega) (by omega)
      rw [show x.toNat / 65536 = (x / 65536).toNat by omega] at e
      refine TR ?_
      rw [e]; simp
  · by_cases h2 : 256 ≤ x
    · refine T ?_
      refine ix_tab Lib.bitLen rfl (by decide +kernel) (by omega) (by omega) ?_
      have t1 := tab (x / 256).toNat (by omega)
      have e := Lib.bitLen_shift8 x.toNat (by omega) (by omega)
      rw [show x.toNat / 256 = (x / 256).toNat by omega] at e
      refine TR ?_
      rw [e]; simp
    · refine T ?_
      refine ix_tab Lib.bitLen rfl (by decide +kernel) (by omega) (by omega) ?_
      have t1 := tab x.toNat (by omega)
      refine TR ?_
      simp
theorem s_LeadingZeros32 (x : Int) (hx : 0 ≤ x) (hx' : x < 4294967296) : Spec Tryz.prog 69 [u32 x] (.sc (.int .i64 (32 - Lib.bitLen x.toNat))) := by
  refine spec_of_awp mixed Tryz.func69 rfl Tryz.call69 (by kernel_rfl) (by simp) rfl ?_
  have := Lib.bitLen_le x.toNat 32 (by omega) (by omega)
  refine T (call_by (s_Len32 x hx hx') ?_)
  exact TR rfl
end Go.Ab
end
section
namespace Go.Ab
open Go Go.Proofs Go.Proofs.YtiamjfckgmnijaaGreatDoor.Pl
set_option maxRecDepth 100000
set_option maxHeartbeats 4000000
theorem sub_step {A B O P x y c s c2 : Int} (h : O + B = A + P * c) (e : s + y + c = x + 4294967296 * c2) : (O + P * s) + (B + P * y) = (A + P * x) + P * 4294967296 * c2 := by
  have : P * (s + y + c) = P * (x + 4294967296 * c2) := by rw [e]
  grind
theorem borrow_eq {x y c : Int} (hx : 0 ≤ x) (hx' : x < 4294967296) (hy : 0 ≤ y) (hy' : y < 4294967296) (hc : 0 ≤ c) (hc' : c < 2) : (x - y - c) % 4294967296 + y + c = x + 4294967296 * (if x < y + c then 1 else 0) := by
  split <;> omega
end Go.Ab
end
section
namespace Go.Ab
open Go Go.Proofs Go.Proofs.YtiamjfckgmnijaaGreatDoor.Pl
set_option maxRecDepth 100000
set_option maxHeartbeats 4000000
theorem mul_bd {x y : Int} (hx : 0 ≤ x ∧ x < 4294967296) (hy : 0 ≤ y ∧ y < 4294967296) : 0 ≤ x * y ∧ x * y ≤ 18446744065119617025 := by
  refine ⟨Int.mul_nonneg hx.1 hy.1, ?_⟩
  have := Int.mul_le_mul (show x ≤ 4294967295 by omega) (show y ≤ 4294967295 by omega) hy.1 (by decide)
  omega
theorem mul_step {OT O0 x B y P R o c s c2 : Int} (hv : OT + P * R * c = O0 + P * x * B) (hs : s + 4294967296 * c2 = x * y + o + c) : (OT + P * R * s) + P * (R * 4294967296) * c2 = (O0 + P * R * o) + P * x * (B + R * y) := by
  have : P * R * (s + 4294967296 * c2) = P * R * (x * y + o + c) := by rw [hs]
  grind
end Go.Ab
end
section
namespace Go.Ab
open Go Go.Proofs Go.Proofs.YtiamjfckgmnijaaGreatDoor.Pl
set_option maxRecDepth 100000
set_option maxHeartbeats 4000000
theorem s_word (a : List Int) (w : Int) (ha : Wf a) (la : a.length ≤ 35184372088000) (hw : 0 < w) (hw' : w < 4294967296) : Spec Tryz.prog 68 [U a, u32 w] (.tup [U (N (val a / w)), u32 (val a % w)]) := by
  refine spec_of_awp mixed Tryz.func68 rfl Tryz.call68 (by kernel_rfl) (by simp) rfl ?_
  refine T ?_
  refine w_loop (α := Nat × Int × List Int) (fun p => [(.t 0, U a), (.t 1, u32 w), (.t 6, .hs 12 1 0 a.length 1), (.t 7, .sc (.int .u64 p.2.1)), (.t 8, .sc (.int .i64 ((p.1 : Int) - 1))), (.h 12, .blk 1 2 (p.2.2.map u32))])
    (fun p => p.1 ≤ a.length ∧ p.2.2.length = a.length ∧ Wf p.2.2 ∧ 0 ≤ p.2.1 ∧ p.2.1 < w ∧ val (p.2.2.drop p.1) * w + p.2.1 = val (a.drop p.1))
    (fun p => p.1) (a.length, 0, List.replicate a.length 0) ⟨Nat.le_refl _, by simp, Wf.zeros _, Int.le_refl 0, hw, by simp [val]⟩ ?_ ?_
  · exact Hv
  rintro ⟨n, r, o⟩ s ⟨h1, h2, h3, h4, h5, h6⟩ J hJ
  simp only at h1 h2 h3 h4 h5 h6
  have H6 := Hd.mk h6
  clear h6
  rcases n with _ | n
  · have h6 := H6.out
    rw [List.drop_zero, List.drop_zero] at h6
    refine T ?_
    refine call_eq (by rw [← h2]) (s_cut o (by omega)) ?_
    refine TR ?_
    have e1 : val a / w = val o := by rw [← h6, Int.add_comm, Int.add_mul_ediv_right _ _ (by omega), Int.ediv_eq_zero_of_lt h4 h5, Int.zero_add]
    have e2 : val a % w = r := by rw [← h6, Int.add_comm, Int.add_mul_emod_self_right, Int.emod_eq_of_lt h4 h5]
    rw [trim_N h3, e1, e2]
  · have hx := ha.at n
    obtain ⟨q, r2, eq, er, hq, hr2, hqr⟩ := divstep hw ⟨h4, h5⟩ hx
    have eq' := eq.out
    have er' := er.out
    subst eq' er'
    clear eq er
    have hqr' := hqr.out
    clear hqr
    have QR := Hd.mk hqr'
    clear hqr'
    refine T ?_
    refine hJ _ (n, (r * 4294967296 + a.getD n 0) % w, o.set n ((r * 4294967296 + a.getD n 0) / w)) (Nat.lt_succ_self n) ⟨by show n ≤ _; omega, by simp [h2], h3.set _ hq.1 hq.2, hr2.1, hr2.2, ?_⟩ ?_
    · show val ((o.set n _).drop n) * w + _ = val (a.drop n)
      rw [val_drop_at (l := o.set n _) (by simp; omega), val_drop_at (l := a) (by omega), getD_set_self (by omega), drop_set_lt (by omega)]
      have h1 := H6.out
      have h2 := QR.out
      generalize val (o.drop (n + 1)) = Q at *
      generalize val (a.drop (n + 1)) = A at *
      generalize a.getD n 0 = x at *
      generalize (r * 4294967296 + x) / w = q at *
      generalize (r * 4294967296 + x) % w = r2 at *
      grind
    · exact Hv
end Go.Ab
end
section
namespace Go.Ab
open Go Go.Proofs Go.Proofs.YtiamjfckgmnijaaGreatDoor.Pl
set_option maxRecDepth 100000
set_option maxHeartbeats 4000000
theorem pow_parts (n : Nat) : (2 : Int) ^ n = 4294967296 ^ (n / 32) * 2 ^ (n % 32) := by
  have h : (4294967296 : Int) = 2 ^ 32 := rfl
  rw [h, ← Int.pow_mul, ← Int.pow_add, Nat.div_add_mod]
theorem or_shift {x c : Int} {s : Nat} (hs : s < 32) (hx : 0 ≤ x ∧ x < 4294967296) (hc : 0 ≤ c ∧ c < 2 ^ s) : bOr .u32 c (x * 2 ^ s % 4294967296) = c + x * 2 ^ s % 4294967296 := by
  have hp := pow_bd (s := s) (by omega)
  obtain ⟨m, rfl⟩ := Int.eq_ofNat_of_zero_le hx.1
  obtain ⟨b, rfl⟩ := Int.eq_ofNat_of_zero_le hc.1
  have e1 : ((m : Int) * 2 ^ s) = ((m * 2 ^ s : Nat) : Int) := by simp
  have e2 : m * 2 ^ s % 4294967296 = 2 ^ s * (m % 2 ^ (32 - s)) := by
    have : 2 ^ (32 - s) * 2 ^ s = 4294967296 := by rw [← Nat.pow_add, show 32 - s + s = 32 from by omega]
    rw [← this, Nat.mul_mod_mul_right, Nat.mul_comm]
  have hb : b < 2 ^ s := by have := hc.2; exact_mod_cast this
  have e3 : ((m * 2 ^ s : Nat) : Int) % 4294967296 = ((m * 2 ^ s % 4294967296 : Nat) : Int) := by omega
  rw [e1, e3]
  have hlt : m * 2 ^ s % 4294967296 < 4294967296 := Nat.mod_lt _ (by decide)
  have hb2 : b < 4294967296 := by
    have := hp.2
    omega
  rw [or32 hb2 hlt, e2, Nat.or_comm, ← Nat.two_pow_add_eq_or_of_lt hb]
  omega
theorem s_Shl (a : List Int) (n : Nat) (ha : Wf a) (la : a.length ≤ 35184372088000) (hn : n ≤ 1000000000) : Spec Tryz.prog 25 [U a, .sc (.int .i64 n)] (U (N (val a * 2 ^ n))) := by
  refine spec_of_awp mixed Tryz.func25 rfl Tryz.call25 (by kernel_rfl) (by simp) rfl ?_
  refine T (call_by (s_cut a (by omega)) ?_)
  have la' := trim_len a
  have ix := Is.of ha rfl
  generalize trim a = x at *
  have hx := ix.wf
  by_cases h0 : x.length = 0
  · refine T (r_ret ?_)
    refine R ?_
    have : val a = 0 := by rw [← ix.val, List.eq_nil_of_length_eq_zero h0]; rfl
    rw [this, Int.zero_mul, N_zero]
    exact Wk.nil
  · have hs : n % 32 < 32 := Nat.mod_lt _ (by decide)
    have hp := pow_bd (s := n % 32) (by omega)
    refine T ?_
    refine w_loop (α := Nat × List Int) (fun p => [(.t 0, U x), (.t 5, .sc (.int .i64 (n / 32 : Nat))), (.t 6, .sc (.int .u64 (n % 32 : Nat))), (.t 7, .hs 26 1 0 (n / 32 + x.length + 1) 1), (.t 27, U x), (.t 28, .sc (.int .i64 x.length)), (.t 29, .sc (.int .i64 p.1)), (.h 26, .blk 1 2 (p.2.map u32))])
      (fun p => p.1 ≤ x.length ∧ p.2.length = n / 32 + x.length + 1 ∧ Wf p.2 ∧ p.2.getD (n / 32 + p.1) 0 < 2 ^ (n % 32) ∧ val (p.2.take (n / 32 + p.1 + 1)) = 4294967296 ^ (n / 32) * (val (x.take p.1) * 2 ^ (n % 32)))
      (fun p => x.length - p.1) (0, List.replicate (n / 32 + x.length + 1) 0) ⟨Nat.zero_le _, by simp, Wf.zeros _, ?_, by simp [List.take_replicate, val_zeros, val]⟩ ?_ ?_
    · show (List.replicate _ (0 : Int)).getD _ 0 < _
      simp only [List.getD_eq_getElem?_getD, List.getElem?_replicate]
      split <;> simp <;> omega
    · exact Hv
    rintro ⟨i, o⟩ r ⟨h1, h2, h3, h4, h5⟩ J hJ
    simp only at h1 h2 h3 h4 h5
    have H5 := Hd.mk h5
    clear h5
    by_cases hi : i < x.length
    · have hai := hx.at i
      have hoi := h3.at (n / 32 + i)
      obtain ⟨y, z, ey, ez, hy, hz, hyz⟩ := shlstep hs hai ⟨hoi.1, h4⟩
      have or1 := or_shift hs hai ⟨hoi.1, h4⟩
      rw [ey.out] at or1
      have ez' := ez.out
      have b1 : 0 ≤ x.getD i 0 * 2 ^ (n % 32) := Int.mul_nonneg hai.1 (by omega)
      have b2 : x.getD i 0 * 2 ^ (n % 32) < 18446744073709551616 := by
        have := Int.mul_le_mul (show x.getD i 0 ≤ 4294967295 by omega) hp.2 (by omega) (by decide)
        omega
      clear ey ez
      refine T ?_
      refine hJ _ (i + 1, (o.set (n / 32 + i) y).set (n / 32 + i + 1) z) ?_ ⟨hi, by simp [h2], (h3.set _ hy.1 hy.2).set _ hz.1 (by omega), ?_, ?_⟩ ?_
      · show x.length - (i + 1) < x.length - i; omega
      · show ((o.set (n / 32 + i) y).set (n / 32 + i + 1) z).getD (n / 32 + i + 1) 0 < _
        rw [getD_set_self (by simp; omega)]
        exact hz.2
      · show val (((o.set (n / 32 + i) y).set (n / 32 + i + 1) z).take (n / 32 + i + 1 + 1)) = 4294967296 ^ (n / 32) * (val (x.take (i + 1)) * 2 ^ (n % 32))
        rw [val_take_set (by simp; omega), val_take_set (by omega), val_take_at x, pow_snoc, Int.pow_add]
        have e := H5.out
        rw [val_take_at, Int.pow_add] at e
        have := hyz.out
        generalize (4294967296 : Int) ^ (n / 32) = K at *
        generalize (4294967296 : Int) ^ i = P at *
        generalize (2 : Int) ^ (n % 32) = S at *
        have e2 : K * P * (y + 4294967296 * z) = K * P * (o.getD (n / 32 + i) 0 + x.getD i 0 * S) := by rw [this]
        clear ez' b1 b2 or1
        grind
      · rw [← or1, ← ez']
        exact Hv
    · have hi' : i = x.length := by omega
      subst hi'
      refine T ?_
      refine call_eq (by rw [← h2]) (s_cut o (by omega)) ?_
      refine TR ?_
      have h5 := H5.out
      rw [List.take_length, ← h2, List.take_length, ix.val] at h5
      rw [trim_N h3, h5, pow_parts n, show 4294967296 ^ (n / 32) * (val a * 2 ^ (n % 32)) = val a * (4294967296 ^ (n / 32) * 2 ^ (n % 32)) from by grind]
theorem s_Shr (a : List Int) (n : Nat) (ha : Wf a) (la : a.length ≤ 35184372088000) (hn : n ≤ 1000000000) : Spec Tryz.prog 71 [U a, .sc (.int .i64 n)] (U (N (val a / 2 ^ n))) := by
  refine spec_of_awp mixed Tryz.func71 rfl Tryz.call71 (by kernel_rfl) (by simp) rfl ?_
  refine T (call_by (s_cut a (by omega)) ?_)
  have la' := trim_len a
  have ix := Is.of ha rfl
  generalize trim a = x at *
  have hx := ix.wf
  have hs : n % 32 < 32 := Nat.mod_lt _ (by decide)
  have hp := pow_bd (s := n % 32) (by omega)
  by_cases h0 : x.length ≤ n / 32
  · refine T (r_ret ?_)
    refine R ?_
    have : val a / 2 ^ n = 0 := by
      have h1 := val_nonneg ha
      have h2 := ix.lt
      have h3 := pow_le h0
      have h4 : (4294967296 : Int) ^ (n / 32) * 1 ≤ 4294967296 ^ (n / 32) * 2 ^ (n % 32) := Int.mul_le_mul_of_nonneg_left hp.1 (Int.le_of_lt (pow_pos' _))
      rw [← pow_parts] at h4
      exact Int.ediv_eq_zero_of_lt h1 (by omega)
    rw [this, N_zero]
    exact Wk.nil
  · refine T ?_
    refine w_loop (α := Nat × List Int) (fun p => [(.t 0, U x), (.t 5, .sc (.int .i64 (n / 32 : Nat))), (.t 6, .sc (.int .u64 (n % 32 : Nat))), (.t 7, .hs 25 1 0 (x.length - n / 32) 1), (.t 27, .sc (.int .i64 (x.length - n / 32 : Nat))), (.t 28, .sc (.int .i64 p.1)), (.h 25, .blk 1 2 (p.2.map u32))])
      (fun p => p.1 ≤ x.length - n / 32 ∧ p.2.length = x.length - n / 32 ∧ Wf p.2 ∧ 2 ^ (n % 32) * val (p.2.take p.1) + x.getD (n / 32) 0 % 2 ^ (n % 32) = val ((x.drop (n / 32)).take p.1) + 4294967296 ^ p.1 * (x.getD (n / 32 + p.1) 0 % 2 ^ (n % 32)))
      (fun p => x.length - n / 32 - p.1) (0, List.replicate (x.length - n / 32) 0) ⟨Nat.zero_le _, by simp, Wf.zeros _, by simp [val]⟩ ?_ ?_
    · exact Hv
    rintro ⟨i, o⟩ r ⟨h1, h2, h3, h5⟩ J hJ
    simp only at h1 h2 h3 h5
    have H5 := Hd.mk h5
    clear h5
    by_cases hi : i < x.length - n / 32
    · have hai := hx.at (n / 32 + i)
      have hbi := hx.at (n / 32 + i + 1)
      obtain ⟨z, ez, hz, hyz⟩ := shrstep hs hai hbi
      have fin : 2 ^ (n % 32) * val ((o.set i z).take (i + 1)) + x.getD (n / 32) 0 % 2 ^ (n % 32) = val ((x.drop (n / 32)).take (i + 1)) + 4294967296 ^ (i + 1) * (x.getD (n / 32 + i + 1) 0 % 2 ^ (n % 32)) := by
        rw [val_take_set (by omega), val_take_at (x.drop _), getD_drop, pow_snoc]
        have e := H5.out
        have := hyz.out
        clear ez
        generalize (4294967296 : Int) ^ i = P at *
        generalize (2 : Int) ^ (n % 32) = S at *
        generalize x.getD (n / 32 + i) 0 = X at *
        generalize x.getD (n / 32 + i + 1) 0 = Y at *
        generalize x.getD (n / 32) 0 % S = X0 at *
        have e2 : P * (S * z + X % S) = P * (X + 4294967296 * (Y % S)) := by rw [this]
        grind
      have FIN := Hd.mk fin
      clear fin
      have ez' := ez.out
      clear ez
      by_cases hj : n / 32 + i + 1 < x.length
      · refine T ?_
        refine hJ _ (i + 1, o.set i z) ?_ ⟨hi, by simp [h2], h3.set _ hz.1 hz.2, FIN.out⟩ ?_
        · show x.length - n / 32 - (i + 1) < x.length - n / 32 - i; omega
        · rw [← ez']; exact Hv
      · have hy0 : x.getD (n / 32 + i + 1) 0 = 0 := getD_big (by omega)
        rw [hy0, Int.zero_mul, Int.zero_add] at ez'
        refine T ?_
        refine hJ _ (i + 1, o.set i z) ?_ ⟨hi, by simp [h2], h3.set _ hz.1 hz.2, FIN.out⟩ ?_
        · show x.length - n / 32 - (i + 1) < x.length - n / 32 - i; omega
        · rw [← ez']; exact Hv
    · have hi' : i = x.length - n / 32 := by omega
      subst hi'
      refine T ?_
      refine call_eq (by rw [← h2]) (s_cut o (by omega)) ?_
      refine TR ?_
      have h5 := H5.out
      rw [← h2, List.take_length, h2, List.take_of_length_le (by simp), getD_big (l := x) (n := n / 32 + (x.length - n / 32)) (by omega)] at h5
      have e1 := val_cut x (n / 32) (by omega)
      have l1 := val_lt (hx.take (n / 32))
      rw [List.length_take, Nat.min_eq_left (by omega)] at l1
      have l2 := val_nonneg (hx.take (n / 32))
      have hpk := pow_pos' (n / 32)
      have e2 : val a / 4294967296 ^ (n / 32) = val (x.drop (n / 32)) := by
        rw [← ix.val, e1, Int.add_mul_ediv_left _ _ (by omega), Int.ediv_eq_zero_of_lt l2 l1, Int.zero_add]
      have e3 : val (x.drop (n / 32)) / 2 ^ (n % 32) = val o := by
        have h6 : val (x.drop (n / 32)) = x.getD (n / 32) 0 % 2 ^ (n % 32) + 2 ^ (n % 32) * val o := by rw [Int.zero_emod, Int.mul_zero, Int.add_zero] at h5; omega
        rw [h6, Int.add_mul_ediv_left _ _ (by omega), Int.ediv_eq_zero_of_lt (Int.emod_nonneg _ (by omega)) (Int.emod_lt_of_pos _ (by omega)), Int.zero_add]
      rw [trim_N h3, pow_parts n, ← Int.ediv_ediv_of_nonneg (by omega), e2, e3]
end Go.Ab
end
