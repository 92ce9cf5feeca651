import Derived.Test.YtgffficaoioljaaRa6
import Derived.Test.YtgffficaoioljaaRa1
import Derived.Lib.BitFns
set_option linter.all false
section
namespace Go.Ab
open Go Go.Proofs Go.Proofs.Ytgffficaoioljaa.Pl
set_option maxRecDepth 100000
set_option maxHeartbeats 4000000
theorem top32 {n : Nat} (h : n < 4294967296) : n / 2147483648 = if n.testBit 31 then 1 else 0 := by
  rw [Nat.testBit_eq_decide_div_mod_eq]
  by_cases h1 : n / 2 ^ 31 % 2 = 1
  · rw [decide_eq_true h1]; simp; omega
  · rw [decide_eq_false h1]; simp; omega
theorem bit31 {n : Nat} (h : n < 4294967296) : n.testBit 31 = decide (2147483648 ≤ n) := by
  rw [Nat.testBit_eq_decide_div_mod_eq]
  by_cases h1 : 2147483648 ≤ n
  · rw [decide_eq_true h1]; simp; omega
  · rw [decide_eq_false h1]; simp; omega
theorem not31 {n : Nat} (h : n < 4294967296) : (4294967295 ^^^ n).testBit 31 = !decide (2147483648 ≤ n) := by
  rw [Nat.testBit_xor, bit31 h, bit31 (by decide)]; simp
theorem borrow {m n : Nat} {c : Int} (hm : m < 4294967296) (hn : n < 4294967296) (hc : 0 ≤ c) (hc' : c < 2) :
    bOr .u32 (bAnd .u32 (bNot .u32 m) n) (bAnd .u32 (bNot .u32 (bXor .u32 m n)) (((m : Int) - n - c) % 4294967296)) / 2147483648 = if (m : Int) < n + c then 1 else 0 := by
  obtain ⟨d, hd2⟩ := Int.eq_ofNat_of_zero_le (show 0 ≤ ((m : Int) - n - c) % 4294967296 by omega)
  have hdl : d < 4294967296 := by omega
  have hmn : m ^^^ n < 4294967296 := Nat.xor_lt_two_pow (n := 32) hm hn
  have hnm : 4294967295 ^^^ m < 4294967296 := Nat.xor_lt_two_pow (n := 32) (by decide) hm
  have hnmn : 4294967295 ^^^ (m ^^^ n) < 4294967296 := Nat.xor_lt_two_pow (n := 32) (by decide) hmn
  have ha1 : (4294967295 ^^^ m) &&& n < 4294967296 := Nat.lt_of_le_of_lt Nat.and_le_right hn
  have ha2 : (4294967295 ^^^ (m ^^^ n)) &&& d < 4294967296 := Nat.lt_of_le_of_lt Nat.and_le_right hdl
  have ho : ((4294967295 ^^^ m) &&& n) ||| ((4294967295 ^^^ (m ^^^ n)) &&& d) < 4294967296 := Nat.or_lt_two_pow (n := 32) ha1 ha2
  rw [hd2, not32 hm, xor32 hm hn, not32 hmn, and32 hnm hn, and32 hnmn hdl, or32 ha1 ha2]
  have ht := top32 ho
  have hb : (((4294967295 ^^^ m) &&& n) ||| ((4294967295 ^^^ (m ^^^ n)) &&& d)).testBit 31 = decide ((m : Int) < n + c) := by
    rw [Nat.testBit_or, Nat.testBit_and, Nat.testBit_and, not31 hm, Nat.testBit_xor, Nat.testBit_xor, bit31 hm, bit31 hn, bit31 hdl, bit31 (show 4294967295 < 4294967296 by decide)]
    by_cases c1 : 2147483648 ≤ m <;> by_cases c2 : 2147483648 ≤ n <;> by_cases c3 : 2147483648 ≤ d <;> simp only [c1, c2, c3, decide_true, decide_false] <;> (by_cases c4 : (m : Int) < n + c <;> simp only [c4, decide_true, decide_false] <;> first | rfl | omega)
  rw [hb] at ht
  by_cases c4 : (m : Int) < n + c
  · rw [if_pos c4]
    rw [decide_eq_true c4] at ht
    simp at ht
    omega
  · rw [if_neg c4]
    rw [decide_eq_false c4] at ht
    simp at ht
    omega
theorem s_Sub32 (x y c : Int) (hx : 0 ≤ x) (hx' : x < 4294967296) (hy : 0 ≤ y) (hy' : y < 4294967296) (hc : 0 ≤ c) (hc' : c < 2) : Spec Try.prog 116 [u32 x, u32 y, u32 c] (.tup [u32 ((x - y - c) % 4294967296), u32 (if x < y + c then 1 else 0)]) := by
  refine spec_of_awp mixed Try.func116 rfl Try.call116 (by kernel_rfl) (by simp) rfl ?_
  refine TR ?_
  obtain ⟨m, rfl⟩ := Int.eq_ofNat_of_zero_le hx
  obtain ⟨n, rfl⟩ := Int.eq_ofNat_of_zero_le hy
  rw [show (((m : Int) - n) % 4294967296 - c) % 4294967296 = ((m : Int) - n - c) % 4294967296 by omega]
  exact congrArg (fun z => AV.tup [_, u32 z]) (borrow (by omega) (by omega) hc hc')
theorem s_Len32 (x : Int) (hx : 0 ≤ x) (hx' : x < 4294967296) : Spec Try.prog 109 [u32 x] (.sc (.int .i64 (Lib.bitLen x.toNat))) := by
  refine spec_of_awp mixed Try.func109 rfl Try.call109 (by kernel_rfl) (by simp) rfl ?_
  have tab : ∀ n : Nat, n < 256 → Lib.bitLen n ≤ 8 := fun n h => Lib.bitLen_le n 8 (by decide) h
  by_cases h1 : 65536 ≤ x
  · by_cases h2 : 256 ≤ x / 65536
    · refine T ?_
      refine ix_tab Lib.bitLen rfl (by decide +kernel) (by omega) (by omega) ?_
      have t1 := tab (x / 65536 / 256).toNat (by omega)
      have e := Lib.bitLen_shift24 x.toNat (by omega) (by omega)
      rw [show x.toNat / 16777216 = (x / 65536 / 256).toNat by omega] at e
      refine TR ?_
      rw [e]; simp
    · refine T ?_
      refine ix_tab Lib.bitLen rfl (by decide +kernel) (by omega) (by omega) ?_
      have t1 := tab (x / 65536).toNat (by omega)
      have e := Lib.bitLen_shift16 x.toNat (by omega) (by omega)
      rw [show x.toNat / 65536 = (x / 65536).toNat by omega] at e
      refine TR ?_
      rw [e]; simp
  · by_cases h2 : 256 ≤ x
    · refine T ?_
      refine ix_tab Lib.bitLen rfl (by decide +kernel) (by omega) (by omega) ?_
      have t1 := tab (x / 256).toNat (by omega)
      have e := Lib.bitLen_shift8 x.toNat (by omega) (by omega)
      rw [show x.toNat / 256 = (x / 256).toNat by omega] at e
      refine TR ?_
      rw [e]; simp
    · refine T ?_
      refine ix_tab Lib.bitLen rfl (by decide +kernel) (by omega) (by omega) ?_
      have t1 := tab x.toNat (by omega)
      refine TR ?_
      simp
theorem s_LeadingZeros32 (x : Int) (hx : 0 ≤ x) (hx' : x < 4294967296) : Spec Try.prog 111 [u32 x] (.sc (.int .i64 (32 - Lib.bitLen x.toNat))) := by
  refine spec_of_awp mixed Try.func111 rfl Try.call111 (by kernel_rfl) (by simp) rfl ?_
  have := Lib.bitLen_le x.toNat 32 (by omega) (by omega)
  refine T (call_by (s_Len32 x hx hx') ?_)
  exact TR rfl
theorem sub_step {A B O P x y c s c2 : Int} (h : O + B = A + P * c) (e : s + y + c = x + 4294967296 * c2) : (O + P * s) + (B + P * y) = (A + P * x) + P * 4294967296 * c2 := by
  have : P * (s + y + c) = P * (x + 4294967296 * c2) := by rw [e]
  grind
theorem borrow_eq {x y c : Int} (hx : 0 ≤ x) (hx' : x < 4294967296) (hy : 0 ≤ y) (hy' : y < 4294967296) (hc : 0 ≤ c) (hc' : c < 2) : (x - y - c) % 4294967296 + y + c = x + 4294967296 * (if x < y + c then 1 else 0) := by
  split <;> omega
theorem s_Sub (a b : List Int) (ha : Wf a) (hb : Wf b) (la : a.length ≤ 1000000000) (lb : b.length ≤ 1000000000) (hle : val b ≤ val a) : Spec Try.prog 94 [U a, U b] (U (N (val a - val b))) := by
  refine spec_of_awp mixed Try.func94 rfl Try.call94 (by kernel_rfl) (by simp) rfl ?_
  refine T (call_by (s_cut a (by omega)) ?_)
  refine T (call_by (s_cut b (by omega)) ?_)
  have la' := trim_len a
  have ix := Is.of ha rfl
  have iy := Is.of hb rfl
  have hlen : (trim b).length ≤ (trim a).length := iy.len (Int.lt_of_le_of_lt hle ix.lt)
  generalize trim a = x at *
  generalize trim b = y at *
  have hx := ix.wf
  have hy := iy.wf
  refine T ?_
  refine w_loop (α := Nat × Int × List Int) (fun p => [(.t 0, U x), (.t 1, U y), (.t 5, .hs 15 1 0 x.length 1), (.t 6, u32 p.2.1), (.t 17, .sc (.int .i64 x.length)), (.t 18, .sc (.int .i64 p.1)), (.h 15, .blk 1 2 (p.2.2.map u32))])
    (fun p => p.1 ≤ x.length ∧ p.2.2.length = x.length ∧ Wf p.2.2 ∧ 0 ≤ p.2.1 ∧ p.2.1 < 2 ∧ val (p.2.2.take p.1) + val (y.take p.1) = val (x.take p.1) + 4294967296 ^ p.1 * p.2.1)
    (fun p => x.length - p.1) (0, 0, List.replicate x.length 0) ⟨Nat.zero_le _, by simp, Wf.zeros _, Int.le_refl 0, (by decide : (0 : Int) < 2), by simp [val]⟩ ?_ ?_
  · exact Hv
  rintro ⟨i, c, o⟩ r ⟨h1, h2, h3, h4, h5, h6⟩ J hJ
  simp only at h1 h2 h3 h4 h5 h6
  have H6 := Hd.mk h6
  clear h6
  by_cases hi : i < x.length
  · have hai := hx.at i
    have fin : ∀ z s c2 : Int, val (y.take (i + 1)) = val (y.take i) + 4294967296 ^ i * z → s + z + c = x.getD i 0 + 4294967296 * c2 →
        val ((o.set i s).take (i + 1)) + val (y.take (i + 1)) = val (x.take (i + 1)) + 4294967296 ^ (i + 1) * c2 := by
      intro z s c2 hz e
      rw [val_take_at x, hz, val_take_set (by omega), pow_snoc]
      exact sub_step H6.out e
    by_cases hyi : i < y.length
    · have hyi' := hy.at i
      refine T (call_by (s_Sub32 _ _ _ hai.1 hai.2 hyi'.1 hyi'.2 h4 h5) ?_)
      refine T ?_
      refine hJ _ (i + 1, (if x.getD i 0 < y.getD i 0 + c then 1 else 0), o.set i ((x.getD i 0 - y.getD i 0 - c) % 4294967296)) ?_ ⟨?_, ?_, ?_, ?_, ?_, ?_⟩ ?_
      · show x.length - (i + 1) < x.length - i; omega
      · exact hi
      · simp [h2]
      · exact Wf.set h3 _ (by omega) (by omega)
      · show 0 ≤ ite _ _ _; split <;> omega
      · show ite _ _ _ < (2 : Int); split <;> omega
      · exact fin _ _ _ (val_take_at y i) (borrow_eq hai.1 hai.2 hyi'.1 hyi'.2 h4 h5)
      · exact Hv
    · refine T (call_by (s_Sub32 _ 0 _ hai.1 hai.2 (by decide) (by decide) h4 h5) ?_)
      refine T ?_
      refine hJ _ (i + 1, (if x.getD i 0 < 0 + c then 1 else 0), o.set i ((x.getD i 0 - 0 - c) % 4294967296)) ?_ ⟨?_, ?_, ?_, ?_, ?_, ?_⟩ ?_
      · show x.length - (i + 1) < x.length - i; omega
      · exact hi
      · simp [h2]
      · exact Wf.set h3 _ (by omega) (by omega)
      · show 0 ≤ ite _ _ _; split <;> omega
      · show ite _ _ _ < (2 : Int); split <;> omega
      · exact fin 0 _ _ (by rw [val_take_at, getD_big (by omega)]) (borrow_eq hai.1 hai.2 (by decide) (by decide) h4 h5)
      · exact Hv
  · have hi' : i = x.length := by omega
    subst hi'
    have h6 := H6.out
    rw [List.take_length, List.take_of_length_le (by omega), List.take_of_length_le hlen, ix.val, iy.val] at h6
    have hc0 : c = 0 := by
      have l1 := val_lt h3
      rw [h2] at l1
      rcases Int.lt_or_le c 1 with h | h
      · omega
      · have e : c = 1 := by omega
        rw [e] at h6
        omega
    rw [hc0] at h6
    refine T ?_
    refine call_eq (by rw [← h2]) (s_cut o (by omega)) ?_
    refine TR ?_
    rw [trim_N h3, show val o = val a - val b by omega]
theorem mul_bd {x y : Int} (hx : 0 ≤ x ∧ x < 4294967296) (hy : 0 ≤ y ∧ y < 4294967296) : 0 ≤ x * y ∧ x * y ≤ 18446744065119617025 := by
  refine ⟨Int.mul_nonneg hx.1 hy.1, ?_⟩
  have := Int.mul_le_mul (show x ≤ 4294967295 by omega) (show y ≤ 4294967295 by omega) hy.1 (by decide)
  omega
theorem mul_step {OT O0 x B y P R o c s c2 : Int} (hv : OT + P * R * c = O0 + P * x * B) (hs : s + 4294967296 * c2 = x * y + o + c) : (OT + P * R * s) + P * (R * 4294967296) * c2 = (O0 + P * R * o) + P * x * (B + R * y) := by
  have : P * R * (s + 4294967296 * c2) = P * R * (x * y + o + c) := by rw [hs]
  grind
theorem s_Mul (a b : List Int) (ha : Wf a) (hb : Wf b) (la : a.length ≤ 1000000000) (lb : b.length ≤ 1000000000) : Spec Try.prog 81 [U a, U b] (U (N (val a * val b))) := by
  refine spec_of_awp mixed Try.func81 rfl Try.call81 (by kernel_rfl) (by simp) rfl ?_
  refine T (call_by (s_cut a (by omega)) ?_)
  refine T (call_by (s_cut b (by omega)) ?_)
  have la' := trim_len a
  have lb' := trim_len b
  have ix := Is.of ha rfl
  have iy := Is.of hb rfl
  generalize trim a = x at *
  generalize trim b = y at *
  have hx := ix.wf
  have hy := iy.wf
  refine T ?_
  refine w_loop (α := Nat × List Int) (fun p => [(.t 0, U x), (.t 1, U y), (.t 5, .hs 21 1 0 (x.length + y.length) 1), (.t 22, U x), (.t 23, .sc (.int .i64 x.length)), (.t 24, .sc (.int .i64 p.1)), (.h 21, .blk 1 2 (p.2.map u32))])
    (fun p => p.1 ≤ x.length ∧ p.2.length = x.length + y.length ∧ Wf p.2 ∧ (∀ k, p.1 + y.length ≤ k → p.2.getD k 0 = 0) ∧ val (p.2.take (p.1 + y.length)) = val (x.take p.1) * val y)
    (fun p => x.length - p.1) (0, List.replicate (x.length + y.length) 0) ⟨Nat.zero_le _, by simp, Wf.zeros _, fun k _ => by simp [List.getD_eq_getElem?_getD, List.getElem?_replicate]; split <;> rfl, by simp [val, List.take_replicate, val_zeros]⟩ ?_ ?_
  · exact Hv
  rintro ⟨i, o⟩ r ⟨h1, h2, h3, h4, h5⟩ J hJ
  simp only at h1 h2 h3 h4 h5
  have H5 := Hd.mk h5
  clear h5
  by_cases hi : i < x.length
  · have hai := hx.at i
    refine T ?_
    refine w_loop (α := Nat × Int × List Int) (fun p => [(.t 0, U x), (.t 1, U y), (.t 5, .hs 21 1 0 (x.length + y.length) 1), (.t 6, .sc (.int .i64 i)), (.t 7, u32 (x.getD i 0)), (.t 8, .sc (.int .u64 p.2.1)), (.t 22, U x), (.t 23, .sc (.int .i64 x.length)), (.t 24, .sc (.int .i64 i)),
        (.t 29, U y), (.t 30, .sc (.int .i64 y.length)), (.t 31, .sc (.int .i64 p.1)), (.h 21, .blk 1 2 (p.2.2.map u32))])
      (fun p => p.1 ≤ y.length ∧ p.2.2.length = x.length + y.length ∧ Wf p.2.2 ∧ 0 ≤ p.2.1 ∧ p.2.1 < 4294967296 ∧ p.2.2.drop (i + p.1) = o.drop (i + p.1) ∧
        val (p.2.2.take (i + p.1)) + 4294967296 ^ i * 4294967296 ^ p.1 * p.2.1 = val (o.take (i + p.1)) + 4294967296 ^ i * x.getD i 0 * val (y.take p.1))
      (fun p => y.length - p.1) (0, 0, o) ⟨Nat.zero_le _, h2, h3, Int.le_refl 0, (by decide : (0 : Int) < 4294967296), rfl, by simp [val]⟩ ?_ ?_
    · exact Hv
    rintro ⟨j, c, q⟩ r ⟨g1, g2, g3, g4, g5, g6, g7⟩ J2 hJ2
    simp only at g1 g2 g3 g4 g5 g6 g7
    have G7 := Hd.mk g7
    clear g7
    by_cases hj : j < y.length
    · have hyj := hy.at j
      have hq := g3.at (i + j)
      have hm := mul_bd hai hyj
      have fin : ∀ s c2 : Int, s + 4294967296 * c2 = x.getD i 0 * y.getD j 0 + q.getD (i + j) 0 + c →
          val ((q.set (i + j) s).take (i + (j + 1))) + 4294967296 ^ i * 4294967296 ^ (j + 1) * c2 = val (o.take (i + (j + 1))) + 4294967296 ^ i * x.getD i 0 * val (y.take (j + 1)) := by
        intro s c2 e
        have hqo : o.getD (i + j) 0 = q.getD (i + j) 0 := by
          have := congrArg (fun l => l.getD 0 0) g6
          simpa [List.getD_eq_getElem?_getD, List.getElem?_drop] using this.symm
        rw [show i + (j + 1) = i + j + 1 from rfl, val_take_set (by omega), val_take_at o, val_take_at y, hqo, pow_snoc, Int.pow_add]
        exact mul_step G7.out e
      refine T ?_
      refine hJ2 _ (j + 1, (x.getD i 0 * y.getD j 0 + q.getD (i + j) 0 + c) / 4294967296, q.set (i + j) ((x.getD i 0 * y.getD j 0 + q.getD (i + j) 0 + c) % 4294967296)) ?_ ⟨hj, by simp [g2], g3.set _ (by omega) (by omega), ?_, ?_, ?_, fin ((x.getD i 0 * y.getD j 0 + q.getD (i + j) 0 + c) % 4294967296) ((x.getD i 0 * y.getD j 0 + q.getD (i + j) 0 + c) / 4294967296) (by omega)⟩ ?_
      · show y.length - (j + 1) < y.length - j; omega
      · show 0 ≤ _ / _; omega
      · show _ / _ < (4294967296 : Int); omega
      · show (q.set (i + j) _).drop (i + j + 1) = o.drop (i + j + 1)
        rw [drop_set_lt (by omega), ← List.drop_drop, g6, List.drop_drop]
      · exact Hv
    · have hj' : j = y.length := by omega
      subst hj'
      refine T ?_
      refine hJ _ (i + 1, q.set (i + y.length) c) ?_ ⟨hi, by simp [g2], g3.set _ g4 g5, ?_, ?_⟩ ?_
      · show x.length - (i + 1) < x.length - i; omega
      · intro k hk
        simp only at hk
        have e := congrArg (fun l => l.getD (k - (i + y.length)) 0) g6
        simp only [List.getD_eq_getElem?_getD, List.getElem?_drop, show i + y.length + (k - (i + y.length)) = k by omega] at e
        simp only [List.getD_eq_getElem?_getD]
        rw [List.getElem?_set_ne (by omega), e]
        simpa [List.getD_eq_getElem?_getD] using h4 k (by omega)
      · have G := G7.out
        rw [List.take_length] at G
        show val ((q.set (i + y.length) c).take (i + 1 + y.length)) = val (x.take (i + 1)) * val y
        rw [show i + 1 + y.length = i + y.length + 1 by omega, val_take_set (by omega), Int.pow_add, G, val_take_at x, H5.out]
        grind
      · exact Hv
  · have hi' : i = x.length := by omega
    subst hi'
    have h5 := H5.out
    rw [List.take_length, List.take_of_length_le (by omega), ix.val, iy.val] at h5
    refine T ?_
    refine call_eq (by rw [← h2]) (s_cut o (by omega)) ?_
    refine TR ?_
    rw [trim_N h3, h5]
theorem s_word (a : List Int) (w : Int) (ha : Wf a) (la : a.length ≤ 1000000000) (hw : 0 < w) (hw' : w < 4294967296) : Spec Try.prog 110 [U a, u32 w] (.tup [U (N (val a / w)), u32 (val a % w)]) := by
  refine spec_of_awp mixed Try.func110 rfl Try.call110 (by kernel_rfl) (by simp) rfl ?_
  refine T ?_
  refine w_loop (α := Nat × Int × List Int) (fun p => [(.t 0, U a), (.t 1, u32 w), (.t 6, .hs 12 1 0 a.length 1), (.t 7, .sc (.int .u64 p.2.1)), (.t 8, .sc (.int .i64 ((p.1 : Int) - 1))), (.h 12, .blk 1 2 (p.2.2.map u32))])
    (fun p => p.1 ≤ a.length ∧ p.2.2.length = a.length ∧ Wf p.2.2 ∧ 0 ≤ p.2.1 ∧ p.2.1 < w ∧ val (p.2.2.drop p.1) * w + p.2.1 = val (a.drop p.1))
    (fun p => p.1) (a.length, 0, List.replicate a.length 0) ⟨Nat.le_refl _, by simp, Wf.zeros _, Int.le_refl 0, hw, by simp [val]⟩ ?_ ?_
  · exact Hv
  rintro ⟨n, r, o⟩ s ⟨h1, h2, h3, h4, h5, h6⟩ J hJ
  simp only at h1 h2 h3 h4 h5 h6
  have H6 := Hd.mk h6
  clear h6
  rcases n with _ | n
  · have h6 := H6.out
    rw [List.drop_zero, List.drop_zero] at h6
    refine T ?_
    refine call_eq (by rw [← h2]) (s_cut o (by omega)) ?_
    refine TR ?_
    have e1 : val a / w = val o := by rw [← h6, Int.add_comm, Int.add_mul_ediv_right _ _ (by omega), Int.ediv_eq_zero_of_lt h4 h5, Int.zero_add]
    have e2 : val a % w = r := by rw [← h6, Int.add_comm, Int.add_mul_emod_self_right, Int.emod_eq_of_lt h4 h5]
    rw [trim_N h3, e1, e2]
  · have hx := ha.at n
    obtain ⟨q, r2, eq, er, hq, hr2, hqr⟩ := divstep hw ⟨h4, h5⟩ hx
    have eq' := eq.out
    have er' := er.out
    subst eq' er'
    clear eq er
    have hqr' := hqr.out
    clear hqr
    have QR := Hd.mk hqr'
    clear hqr'
    refine T ?_
    refine hJ _ (n, (r * 4294967296 + a.getD n 0) % w, o.set n ((r * 4294967296 + a.getD n 0) / w)) (Nat.lt_succ_self n) ⟨by show n ≤ _; omega, by simp [h2], h3.set _ hq.1 hq.2, hr2.1, hr2.2, ?_⟩ ?_
    · show val ((o.set n _).drop n) * w + _ = val (a.drop n)
      rw [val_drop_at (l := o.set n _) (by simp; omega), val_drop_at (l := a) (by omega), getD_set_self (by omega), drop_set_lt (by omega)]
      have h1 := H6.out
      have h2 := QR.out
      generalize val (o.drop (n + 1)) = Q at *
      generalize val (a.drop (n + 1)) = A at *
      generalize a.getD n 0 = x at *
      generalize (r * 4294967296 + x) / w = q at *
      generalize (r * 4294967296 + x) % w = r2 at *
      grind
    · exact Hv
theorem pow_parts (n : Nat) : (2 : Int) ^ n = 4294967296 ^ (n / 32) * 2 ^ (n % 32) := by
  have h : (4294967296 : Int) = 2 ^ 32 := rfl
  rw [h, ← Int.pow_mul, ← Int.pow_add, Nat.div_add_mod]
theorem or_shift {x c : Int} {s : Nat} (hs : s < 32) (hx : 0 ≤ x ∧ x < 4294967296) (hc : 0 ≤ c ∧ c < 2 ^ s) : bOr .u32 c (x * 2 ^ s % 4294967296) = c + x * 2 ^ s % 4294967296 := by
  have hp := pow_bd (s := s) (by omega)
  obtain ⟨m, rfl⟩ := Int.eq_ofNat_of_zero_le hx.1
  obtain ⟨b, rfl⟩ := Int.eq_ofNat_of_zero_le hc.1
  have e1 : ((m : Int) * 2 ^ s) = ((m * 2 ^ s : Nat) : Int) := by simp
  have e2 : m * 2 ^ s % 4294967296 = 2 ^ s * (m % 2 ^ (32 - s)) := by
    have : 2 ^ (32 - s) * 2 ^ s = 4294967296 := by rw [← Nat.pow_add, show 32 - s + s = 32 from by omega]
    rw [← this, Nat.mul_mod_mul_right, Nat.mul_comm]
  have hb : b < 2 ^ s := by have := hc.2; exact_mod_cast this
  have e3 : ((m * 2 ^ s : Nat) : Int) % 4294967296 = ((m * 2 ^ s % 4294967296 : Nat) : Int) := by omega
  rw [e1, e3]
  have hlt : m * 2 ^ s % 4294967296 < 4294967296 := Nat.mod_lt _ (by decide)
  have hb2 : b < 4294967296 := by
    have := hp.2
    omega
  rw [or32 hb2 hlt, e2, Nat.or_comm, ← Nat.two_pow_add_eq_or_of_lt hb]
  omega
theorem s_Shl (a : List Int) (n : Nat) (ha : Wf a) (la : a.length ≤ 1000000000) (hn : n ≤ 1000000000) : Spec Try.prog 112 [U a, .sc (.int .i64 n)] (U (N (val a * 2 ^ n))) := by
  refine spec_of_awp mixed Try.func112 rfl Try.call112 (by kernel_rfl) (by simp) rfl ?_
  refine T (call_by (s_cut a (by omega)) ?_)
  have la' := trim_len a
  have ix := Is.of ha rfl
  generalize trim a = x at *
  have hx := ix.wf
  by_cases h0 : x.length = 0
  · refine T (r_ret ?_)
    refine R ?_
    have : val a = 0 := by rw [← ix.val, List.eq_nil_of_length_eq_zero h0]; rfl
    rw [this, Int.zero_mul, N_zero]
    exact Wk.nil
  · have hs : n % 32 < 32 := Nat.mod_lt _ (by decide)
    have hp := pow_bd (s := n % 32) (by omega)
    refine T ?_
    refine w_loop (α := Nat × List Int) (fun p => [(.t 0, U x), (.t 5, .sc (.int .i64 (n / 32 : Nat))), (.t 6, .sc (.int .u64 (n % 32 : Nat))), (.t 7, .hs 26 1 0 (n / 32 + x.length + 1) 1), (.t 27, U x), (.t 28, .sc (.int .i64 x.length)), (.t 29, .sc (.int .i64 p.1)), (.h 26, .blk 1 2 (p.2.map u32))])
      (fun p => p.1 ≤ x.length ∧ p.2.length = n / 32 + x.length + 1 ∧ Wf p.2 ∧ p.2.getD (n / 32 + p.1) 0 < 2 ^ (n % 32) ∧ val (p.2.take (n / 32 + p.1 + 1)) = 4294967296 ^ (n / 32) * (val (x.take p.1) * 2 ^ (n % 32)))
      (fun p => x.length - p.1) (0, List.replicate (n / 32 + x.length + 1) 0) ⟨Nat.zero_le _, by simp, Wf.zeros _, ?_, by simp [List.take_replicate, val_zeros, val]⟩ ?_ ?_
    · show (List.replicate _ (0 : Int)).getD _ 0 < _
      simp only [List.getD_eq_getElem?_getD, List.getElem?_replicate]
      split <;> simp <;> omega
    · exact Hv
    rintro ⟨i, o⟩ r ⟨h1, h2, h3, h4, h5⟩ J hJ
    simp only at h1 h2 h3 h4 h5
    have H5 := Hd.mk h5
    clear h5
    by_cases hi : i < x.length
    · have hai := hx.at i
      have hoi := h3.at (n / 32 + i)
      obtain ⟨y, z, ey, ez, hy, hz, hyz⟩ := shlstep hs hai ⟨hoi.1, h4⟩
      have or1 := or_shift hs hai ⟨hoi.1, h4⟩
      rw [ey.out] at or1
      have ez' := ez.out
      have b1 : 0 ≤ x.getD i 0 * 2 ^ (n % 32) := Int.mul_nonneg hai.1 (by omega)
      have b2 : x.getD i 0 * 2 ^ (n % 32) < 18446744073709551616 := by
        have := Int.mul_le_mul (show x.getD i 0 ≤ 4294967295 by omega) hp.2 (by omega) (by decide)
        omega
      clear ey ez
      refine T ?_
      refine hJ _ (i + 1, (o.set (n / 32 + i) y).set (n / 32 + i + 1) z) ?_ ⟨hi, by simp [h2], (h3.set _ hy.1 hy.2).set _ hz.1 (by omega), ?_, ?_⟩ ?_
      · show x.length - (i + 1) < x.length - i; omega
      · show ((o.set (n / 32 + i) y).set (n / 32 + i + 1) z).getD (n / 32 + i + 1) 0 < _
        rw [getD_set_self (by simp; omega)]
        exact hz.2
      · show val (((o.set (n / 32 + i) y).set (n / 32 + i + 1) z).take (n / 32 + i + 1 + 1)) = 4294967296 ^ (n / 32) * (val (x.take (i + 1)) * 2 ^ (n % 32))
        rw [val_take_set (by simp; omega), val_take_set (by omega), val_take_at x, pow_snoc, Int.pow_add]
        have e := H5.out
        rw [val_take_at, Int.pow_add] at e
        have := hyz.out
        generalize (4294967296 : Int) ^ (n / 32) = K at *
        generalize (4294967296 : Int) ^ i = P at *
        generalize (2 : Int) ^ (n % 32) = S at *
        have e2 : K * P * (y + 4294967296 * z) = K * P * (o.getD (n / 32 + i) 0 + x.getD i 0 * S) := by rw [this]
        clear ez' b1 b2 or1
        grind
      · rw [← or1, ← ez']
        exact Hv
    · have hi' : i = x.length := by omega
      subst hi'
      refine T ?_
      refine call_eq (by rw [← h2]) (s_cut o (by omega)) ?_
      refine TR ?_
      have h5 := H5.out
      rw [List.take_length, ← h2, List.take_length, ix.val] at h5
      rw [trim_N h3, h5, pow_parts n, show 4294967296 ^ (n / 32) * (val a * 2 ^ (n % 32)) = val a * (4294967296 ^ (n / 32) * 2 ^ (n % 32)) from by grind]
theorem s_Shr (a : List Int) (n : Nat) (ha : Wf a) (la : a.length ≤ 1000000000) (hn : n ≤ 1000000000) : Spec Try.prog 114 [U a, .sc (.int .i64 n)] (U (N (val a / 2 ^ n))) := by
  refine spec_of_awp mixed Try.func114 rfl Try.call114 (by kernel_rfl) (by simp) rfl ?_
  refine T (call_by (s_cut a (by omega)) ?_)
  have la' := trim_len a
  have ix := Is.of ha rfl
  generalize trim a = x at *
  have hx := ix.wf
  have hs : n % 32 < 32 := Nat.mod_lt _ (by decide)
  have hp := pow_bd (s := n % 32) (by omega)
  by_cases h0 : x.length ≤ n / 32
  · refine T (r_ret ?_)
    refine R ?_
    have : val a / 2 ^ n = 0 := by
      have h1 := val_nonneg ha
      have h2 := ix.lt
      have h3 := pow_le h0
      have h4 : (4294967296 : Int) ^ (n / 32) * 1 ≤ 4294967296 ^ (n / 32) * 2 ^ (n % 32) := Int.mul_le_mul_of_nonneg_left hp.1 (Int.le_of_lt (pow_pos' _))
      rw [← pow_parts] at h4
      exact Int.ediv_eq_zero_of_lt h1 (by omega)
    rw [this, N_zero]
    exact Wk.nil
  · refine T ?_
    refine w_loop (α := Nat × List Int) (fun p => [(.t 0, U x), (.t 5, .sc (.int .i64 (n / 32 : Nat))), (.t 6, .sc (.int .u64 (n % 32 : Nat))), (.t 7, .hs 25 1 0 (x.length - n / 32) 1), (.t 27, .sc (.int .i64 (x.length - n / 32 : Nat))), (.t 28, .sc (.int .i64 p.1)), (.h 25, .blk 1 2 (p.2.map u32))])
      (fun p => p.1 ≤ x.length - n / 32 ∧ p.2.length = x.length - n / 32 ∧ Wf p.2 ∧ 2 ^ (n % 32) * val (p.2.take p.1) + x.getD (n / 32) 0 % 2 ^ (n % 32) = val ((x.drop (n / 32)).take p.1) + 4294967296 ^ p.1 * (x.getD (n / 32 + p.1) 0 % 2 ^ (n % 32)))
      (fun p => x.length - n / 32 - p.1) (0, List.replicate (x.length - n / 32) 0) ⟨Nat.zero_le _, by simp, Wf.zeros _, by simp [val]⟩ ?_ ?_
    · exact Hv
    rintro ⟨i, o⟩ r ⟨h1, h2, h3, h5⟩ J hJ
    simp only at h1 h2 h3 h5
    have H5 := Hd.mk h5
    clear h5
    by_cases hi : i < x.length - n / 32
    · have hai := hx.at (n / 32 + i)
      have hbi := hx.at (n / 32 + i + 1)
      obtain ⟨z, ez, hz, hyz⟩ := shrstep hs hai hbi
      have fin : 2 ^ (n % 32) * val ((o.set i z).take (i + 1)) + x.getD (n / 32) 0 % 2 ^ (n % 32) = val ((x.drop (n / 32)).take (i + 1)) + 4294967296 ^ (i + 1) * (x.getD (n / 32 + i + 1) 0 % 2 ^ (n % 32)) := by
        rw [val_take_set (by omega), val_take_at (x.drop _), getD_drop, pow_snoc]
        have e := H5.out
        have := hyz.out
        clear ez
        generalize (4294967296 : Int) ^ i = P at *
        generalize (2 : Int) ^ (n % 32) = S at *
        generalize x.getD (n / 32 + i) 0 = X at *
        generalize x.getD (n / 32 + i + 1) 0 = Y at *
        generalize x.getD (n / 32) 0 % S = X0 at *
        have e2 : P * (S * z + X % S) = P * (X + 4294967296 * (Y % S)) := by rw [this]
        grind
      have FIN := Hd.mk fin
      clear fin
      have ez' := ez.out
      clear ez
      by_cases hj : n / 32 + i + 1 < x.length
      · refine T ?_
        refine hJ _ (i + 1, o.set i z) ?_ ⟨hi, by simp [h2], h3.set _ hz.1 hz.2, FIN.out⟩ ?_
        · show x.length - n / 32 - (i + 1) < x.length - n / 32 - i; omega
        · rw [← ez']; exact Hv
      · have hy0 : x.getD (n / 32 + i + 1) 0 = 0 := getD_big (by omega)
        rw [hy0, Int.zero_mul, Int.zero_add] at ez'
        refine T ?_
        refine hJ _ (i + 1, o.set i z) ?_ ⟨hi, by simp [h2], h3.set _ hz.1 hz.2, FIN.out⟩ ?_
        · show x.length - n / 32 - (i + 1) < x.length - n / 32 - i; omega
        · rw [← ez']; exact Hv
    · have hi' : i = x.length - n / 32 := by omega
      subst hi'
      refine T ?_
      refine call_eq (by rw [← h2]) (s_cut o (by omega)) ?_
      refine TR ?_
      have h5 := H5.out
      rw [← h2, List.take_length, h2, List.take_of_length_le (by simp), getD_big (l := x) (n := n / 32 + (x.length - n / 32)) (by omega)] at h5
      have e1 := val_cut x (n / 32) (by omega)
      have l1 := val_lt (hx.take (n / 32))
      rw [List.length_take, Nat.min_eq_left (by omega)] at l1
      have l2 := val_nonneg (hx.take (n / 32))
      have hpk := pow_pos' (n / 32)
      have e2 : val a / 4294967296 ^ (n / 32) = val (x.drop (n / 32)) := by
        rw [← ix.val, e1, Int.add_mul_ediv_left _ _ (by omega), Int.ediv_eq_zero_of_lt l2 l1, Int.zero_add]
      have e3 : val (x.drop (n / 32)) / 2 ^ (n % 32) = val o := by
        have h6 : val (x.drop (n / 32)) = x.getD (n / 32) 0 % 2 ^ (n % 32) + 2 ^ (n % 32) * val o := by rw [Int.zero_emod, Int.mul_zero, Int.add_zero] at h5; omega
        rw [h6, Int.add_mul_ediv_left _ _ (by omega), Int.ediv_eq_zero_of_lt (Int.emod_nonneg _ (by omega)) (Int.emod_lt_of_pos _ (by omega)), Int.zero_add]
      rw [trim_N h3, pow_parts n, ← Int.ediv_ediv_of_nonneg (by omega), e2, e3]
end Go.Ab
end
section
namespace Go.Ab
open Go Go.Proofs Go.Proofs.Ytgffficaoioljaa.Pl
set_option maxRecDepth 100000
set_option maxHeartbeats 8000000
theorem kn_guess {Uv Vv W X M v1 v2 top u2 q : Int} (K : Kn Uv Vv W X M v1 v2 top u2 q) : q ≤ top / v1 := by
  have hq := K.hq
  have hlo := K.lo
  refine Int.le_ediv_of_mul_le (by have := K.bv1; omega) ?_
  have c : q * Vv = q * W + q * (v1 * 4294967296 + v2) * M := by rw [K.hV]; grind
  have d : 0 ≤ q * W := Int.mul_nonneg hq.1 K.hW.1
  have f := K.hU
  have g1 := K.hX
  have hM := K.hM
  have h2 : q * (v1 * 4294967296 + v2) * M < (top * 4294967296 + u2 + 1) * M := by
    have : (top * 4294967296 + u2 + 1) * M = (top * 4294967296 + u2) * M + M := by grind
    omega
  have h3 := Int.lt_of_mul_lt_mul_right h2 (Int.le_of_lt hM)
  have e : q * (v1 * 4294967296 + v2) = q * v1 * 4294967296 + q * v2 := by grind
  have h5 : 0 ≤ q * v2 := Int.mul_nonneg hq.1 K.bv2.1
  have h6 := K.bu2
  rw [e] at h3
  clear h2 c f hlo
  omega
theorem kn_less {Uv Vv W X M v1 v2 top u2 q g r : Int} (K : Kn Uv Vv W X M v1 v2 top u2 q) (hgr : Hd (g * v1 + r = top)) (hr : 0 ≤ r ∧ r < 4294967296) (hqg : q < g) :
    Hd ((g - 1) * v1 + (r + v1) = top) ∧ (4294967296 ≤ r + v1 → g - 1 < 4294967296 ∧ g - 1 ≤ q + 1) := by
  have hv1 := K.bv1
  have hv2 := K.bv2
  have hu2 := K.bu2
  have ht := K.btop
  have hq := K.hq
  have hgr' := hgr.out
  have hg1 : (g - 1) * v1 + (r + v1) = top := by rw [← hgr']; grind
  refine ⟨⟨hg1⟩, fun c => ?_⟩
  have hlt : g - 1 < 4294967296 := by
    rcases Int.lt_or_le (g - 1) 4294967296 with h5 | h5
    · exact h5
    · have : 4294967296 * v1 ≤ (g - 1) * v1 := Int.mul_le_mul_of_nonneg_right h5 (by omega)
      omega
  have hg0 : 0 ≤ g - 1 ∧ g - 1 < 4294967296 := by omega
  refine ⟨hlt, K.near hg0 ?_⟩
  have hb : (g - 1) * v2 ≤ 18446744065119617025 := (mul_bd hg0 hv2).2
  have e : (g - 1) * (v1 * 4294967296 + v2) = (g - 1) * v1 * 4294967296 + (g - 1) * v2 := by grind
  rw [e]
  generalize (g - 1) * v1 = p at *
  generalize (g - 1) * v2 = p2 at *
  omega
theorem kn_stay {Uv Vv W X M v1 v2 top u2 q g r : Int} (K : Kn Uv Vv W X M v1 v2 top u2 q) (hgr : Hd (g * v1 + r = top)) (hg : 0 ≤ g ∧ g < 4294967296) (t : ¬ r * 4294967296 + u2 < g * v2) : g ≤ q + 1 := by
  refine K.near hg ?_
  have hgr' := hgr.out
  have e : g * (v1 * 4294967296 + v2) = g * v1 * 4294967296 + g * v2 := by grind
  rw [e]
  generalize g * v1 = p at *
  generalize g * v2 = p2 at *
  omega
theorem dstep {o v g c b : Int} (ho : 0 ≤ o ∧ o < 4294967296) (hv : 0 ≤ v ∧ v < 4294967296) (hg : 0 ≤ g ∧ g < 4294967296) (hc : 0 ≤ c ∧ c < 4294967296) (hb : 0 ≤ b ∧ b ≤ 1) :
    ∃ t, Hd (((o - (g * v + c) % 4294967296) % 18446744073709551616 - b) % 18446744073709551616 = t) ∧ (0 ≤ t % 4294967296 ∧ t % 4294967296 < 4294967296) ∧ (0 ≤ (g * v + c) / 4294967296 ∧ (g * v + c) / 4294967296 < 4294967296) ∧ (0 ≤ t / 9223372036854775808 ∧ t / 9223372036854775808 ≤ 1) ∧
      Hd (t % 4294967296 + g * v + c + b = o + 4294967296 * ((g * v + c) / 4294967296 + t / 9223372036854775808)) := by
  have hgv := mul_bd hg hv
  generalize g * v = m at *
  exact ⟨_, ⟨rfl⟩, by omega, by omega, by omega, ⟨by omega⟩⟩
theorem dlast {o c b : Int} (ho : 0 ≤ o ∧ o < 4294967296) (hc : 0 ≤ c ∧ c < 4294967296) (hb : 0 ≤ b ∧ b ≤ 1) :
    ∃ t, Hd (((o - c) % 18446744073709551616 - b) % 18446744073709551616 = t) ∧ (0 ≤ t % 4294967296 ∧ t % 4294967296 < 4294967296) ∧ (0 ≤ t / 9223372036854775808 ∧ t / 9223372036854775808 ≤ 1) ∧ Hd (t % 4294967296 + c + b = o + 4294967296 * (t / 9223372036854775808)) :=
  ⟨_, ⟨rfl⟩, by omega, by omega, ⟨by omega⟩⟩
theorem dmid_eq {PT VT OT Q g o v s b2 c2 c b : Int} (h1 : PT + g * VT = OT + Q * (c + b)) (h2 : s + g * v + c + b = o + 4294967296 * (c2 + b2)) : PT + Q * s + g * (VT + Q * v) = OT + Q * o + Q * 4294967296 * (c2 + b2) := by
  have : Q * (s + g * v + c + b) = Q * (o + 4294967296 * (c2 + b2)) := by rw [h2]
  grind
theorem dlast_eq {PT VV OT Q g o s b2 c b : Int} (h1 : PT + g * VV = OT + Q * (c + b)) (h2 : s + c + b = o + 4294967296 * b2) : PT + Q * s + g * VV = OT + Q * o + Q * 4294967296 * b2 := by
  have : Q * (s + c + b) = Q * (o + 4294967296 * b2) := by rw [h2]
  grind
theorem put_step {PT RT VT Q o v c s c2 : Int} (h1 : PT + Q * c = RT + VT) (h2 : o + v + c = c2 * 4294967296 + s) : PT + Q * s + Q * 4294967296 * c2 = RT + Q * o + (VT + Q * v) := by
  have : Q * (o + v + c) = Q * (c2 * 4294967296 + s) := by rw [h2]
  grind
theorem back_eq {PT RT VV Q o c s mm rr : Int} (h1 : PT + Q * c = RT + VV) (h2 : RT + Q * o + VV = rr + Q * 4294967296) (h3 : o + c = s + 4294967296 * mm) : (PT + Q * s) + Q * 4294967296 * mm = rr + Q * 4294967296 := by
  have : Q * (o + c) = Q * (s + 4294967296 * mm) := by rw [h3]
  grind
theorem getD_of_drop {a b : List Int} {i : Nat} (h : a.drop i = b.drop i) : a.getD i 0 = b.getD i 0 := by
  have := congrArg (fun l => l.getD 0 0) h
  simpa [List.getD_eq_getElem?_getD, List.getElem?_drop] using this
theorem drop_more {a b : List Int} {i : Nat} (h : a.drop i = b.drop i) (x : Int) : (a.set i x).drop (i + 1) = b.drop (i + 1) := by
  rw [drop_set_lt (by omega), ← List.drop_drop, h, List.drop_drop]
theorem all_u32' (l : List Int) : (l.map u32).all AV.fz = true := by simp [AV.fz, oneV]
theorem s_digit (A O D V : List Int) (m : Nat) (hO : Wf O) (hV : Wf V) (hn : V.length = m + 2) (hu : O.length = m + 3) (hm : A.length + O.length + D.length ≤ 3000000000) (htop : 2147483648 ≤ V.getD (m + 1) 0) (hlt : val O < 4294967296 * val V) :
    SpecH Try.prog 113 [.hs 1000000 1 A.length (m + 3) 1, .vs (m + 2) (V.map u32)] ((A ++ O ++ D).map u32) (u32 (val O / val V)) 1 ((A ++ fixN (m + 3) (val O % val V) ++ D).map u32) := by
  refine specH_of_awp mixed Try.func113 rfl Try.call113 (by kernel_rfl) (by simp) (by rfl) (by decide) (by simp [fixN_len, hu]) ?_
  have K := kn_of O V m hO hV hn hu htop hlt
  have hv1 := hV.at (m + 1)
  have hv2 := hV.at m
  have ho2 := hO.at (m + 2)
  have ho1 := hO.at (m + 1)
  have ho0 := hO.at m
  have hVl := val_lt hV
  have hVn := val_nonneg hV
  have hmod := Int.emod_def (val O) (val V)
  have hm0 : 0 ≤ val O % val V := Int.emod_nonneg _ (by have := K.pos; have := K.hM; omega)
  have hm1 : val O % val V < val V := Int.emod_lt_of_pos _ (by have := K.pos; have := K.hM; omega)
  have hpl := pow_le (m := V.length) (n := m + 3) (by omega)
  have hfv := fixN_val (m + 3) (val O % val V) hm0 (by omega)
  have hq := K.hq
  have hlo := K.lo
  have hhi := K.hi
  have bt := K.btop
  generalize hq0 : val O / val V = q at *
  generalize hq1 : val O % val V = rr at *
  have hg0 : 0 ≤ (O.getD (m + 2) 0 * 4294967296 + O.getD (m + 1) 0) / V.getD (m + 1) 0 := Int.ediv_nonneg (by omega) (by omega)
  have hgt : (O.getD (m + 2) 0 * 4294967296 + O.getD (m + 1) 0) / V.getD (m + 1) 0 ≤ O.getD (m + 2) 0 * 4294967296 + O.getD (m + 1) 0 := Int.ediv_le_self _ (by omega)
  have hr0 := Int.emod_nonneg (O.getD (m + 2) 0 * 4294967296 + O.getD (m + 1) 0) (show V.getD (m + 1) 0 ≠ 0 by omega)
  have hr1 := Int.emod_lt_of_pos (O.getD (m + 2) 0 * 4294967296 + O.getD (m + 1) 0) (show 0 < V.getD (m + 1) 0 by omega)
  have hX : (A ++ O ++ D).length = A.length + (m + 3) + D.length := by simp [hu]; omega
  have HQ := Hd.mk hlo
  have HQ2 := Hd.mk hhi
  have HM := Hd.mk hmod
  have HP := Hd.mk hpl
  clear hlo hhi hmod hpl
  refine TB ?_
  refine w_cut (α := Int) (fun g => [(.t 0, .hs 1000000 1 A.length (m + 3) 1), (.t 1, .vs (m + 2) (V.map u32)), (.t 5, .sc (.int .i64 (m + 2 : Int))), (.t 7, .sc (.int .u64 g)), (.h 1000000, .blk 1 2 ((A ++ O ++ D).map u32))]) (fun g => 0 ≤ g ∧ g < 4294967296 ∧ q ≤ g ∧ g ≤ q + 1) ?_ ?_
  · intro J hJ
    refine T ?_
    refine w_loop (α := Int × Int) (fun p => [(.t 0, .hs 1000000 1 A.length (m + 3) 1), (.t 1, .vs (m + 2) (V.map u32)), (.t 5, .sc (.int .i64 (m + 2 : Int))), (.t 7, .sc (.int .u64 p.1)), (.t 8, .sc (.int .u64 p.2)), (.h 1000000, .blk 1 2 ((A ++ O ++ D).map u32))])
      (fun p => 0 ≤ p.1 ∧ p.1 < 18446744073709551616 ∧ 0 ≤ p.2 ∧ p.2 < 4294967296 ∧ q ≤ p.1 ∧ Hd (p.1 * V.getD (m + 1) 0 + p.2 = O.getD (m + 2) 0 * 4294967296 + O.getD (m + 1) 0)) (fun p => p.1.toNat)
      ((O.getD (m + 2) 0 * 4294967296 + O.getD (m + 1) 0) / V.getD (m + 1) 0, (O.getD (m + 2) 0 * 4294967296 + O.getD (m + 1) 0) % V.getD (m + 1) 0)
      ⟨hg0, by show _ / _ < _; omega, hr0, by show _ % _ < _; omega, kn_guess K, ⟨by show _ / _ * _ + _ % _ = _; rw [Int.emod_def, Int.mul_comm]; omega⟩⟩ ?_ ?_
    · exact Hv
    rintro ⟨g, r⟩ s ⟨g1, g2, g3, g4, g5, g6⟩ J2 hJ2
    simp only at g1 g2 g3 g4 g5 g6
    by_cases c1 : 4294967296 ≤ g
    · obtain ⟨l1, l2⟩ := kn_less K g6 ⟨g3, g4⟩ (by omega)
      by_cases c : 4294967296 ≤ r + V.getD (m + 1) 0
      · refine T ?_
        exact hJ _ (g - 1) ⟨by omega, (l2 c).1, by omega, (l2 c).2⟩ Hv
      · refine T ?_
        exact hJ2 _ (g - 1, r + V.getD (m + 1) 0) (by show (g - 1).toNat < g.toNat; omega) ⟨by show 0 ≤ g - 1; omega, by show g - 1 < _; omega, by show 0 ≤ r + _; omega, by show r + _ < _; omega, by show q ≤ g - 1; omega, l1⟩ Hv
    · have hgv := mul_bd (x := g) (y := V.getD m 0) (by omega) hv2
      by_cases t : r * 4294967296 + O.getD m 0 < g * V.getD m 0
      · have hqg := K.over g1 g6.out t
        obtain ⟨l1, l2⟩ := kn_less K g6 ⟨g3, g4⟩ hqg
        by_cases c : 4294967296 ≤ r + V.getD (m + 1) 0
        · refine T ?_
          exact hJ _ (g - 1) ⟨by omega, (l2 c).1, by omega, (l2 c).2⟩ Hv
        · refine T ?_
          exact hJ2 _ (g - 1, r + V.getD (m + 1) 0) (by show (g - 1).toNat < g.toNat; omega) ⟨by show 0 ≤ g - 1; omega, by show g - 1 < _; omega, by show 0 ≤ r + _; omega, by show r + _ < _; omega, by show q ≤ g - 1; omega, l1⟩ Hv
      · have st := kn_stay K g6 ⟨g1, by omega⟩ t
        refine T ?_
        exact hJ _ g ⟨g1, by omega, g5, st⟩ Hv
  rintro g s ⟨g1, g2, g3, g4⟩
  refine T ?_
  refine w_loop (α := Nat × Int × Int × List Int) (fun p => [(.t 0, .hs 1000000 1 A.length (m + 3) 1), (.t 1, .vs (m + 2) (V.map u32)), (.t 5, .sc (.int .i64 (m + 2 : Int))), (.t 7, .sc (.int .u64 g)), (.t 9, .sc (.int .u64 p.2.2.1)), (.t 10, .sc (.int .u64 p.2.1)), (.t 82, .sc (.int .i64 (m + 2 : Int))), (.t 83, .sc (.int .i64 p.1)), (.h 1000000, .blk 1 2 ((A ++ p.2.2.2 ++ D).map u32))])
    (fun p => p.1 ≤ m + 2 ∧ p.2.2.2.length = m + 3 ∧ Wf p.2.2.2 ∧ 0 ≤ p.2.1 ∧ p.2.1 < 4294967296 ∧ 0 ≤ p.2.2.1 ∧ p.2.2.1 ≤ 1 ∧ p.2.2.2.drop p.1 = O.drop p.1 ∧ Hd (val (p.2.2.2.take p.1) + g * val (V.take p.1) = val (O.take p.1) + 4294967296 ^ p.1 * (p.2.1 + p.2.2.1))) (fun p => m + 2 - p.1)
    (0, 0, 0, O) ⟨Nat.zero_le _, hu, hO, Int.le_refl 0, (by decide : (0 : Int) < 4294967296), Int.le_refl 0, (by decide : (0 : Int) ≤ 1), rfl, ⟨by simp [val]⟩⟩ ?_ ?_
  · exact Hv
  rintro ⟨i, c, b, P⟩ s ⟨p1, p2, p3, p4, p5, p6, p7, p8, p9⟩ J hJ
  simp only at p1 p2 p3 p4 p5 p6 p7 p8 p9
  have hPX : (A ++ P ++ D).length = A.length + (m + 3) + D.length := by simp [p2]; omega
  have hPO := getD_of_drop p8
  have hpi := p3.at i
  by_cases hi : i < m + 2
  · have hvi := hV.at i
    have hgv := mul_bd (x := g) (y := V.getD i 0) ⟨g1, g2⟩ hvi
    obtain ⟨t, et, t1, t2, t3, t4⟩ := dstep hpi hvi ⟨g1, g2⟩ ⟨p4, p5⟩ ⟨p6, p7⟩
    have et' := et.out
    have fin : val ((P.set i (t % 4294967296)).take (i + 1)) + g * val (V.take (i + 1)) = val (O.take (i + 1)) + 4294967296 ^ (i + 1) * ((g * V.getD i 0 + c) / 4294967296 + t / 9223372036854775808) := by
      rw [val_take_set (by omega), val_take_at V, val_take_at O, ← hPO, pow_snoc]
      exact dmid_eq p9.out t4.out
    have FIN := Hd.mk fin
    clear fin et t4
    have tb : 0 ≤ t ∧ t < 18446744073709551616 := by rw [← et']; omega
    refine T ?_
    refine hJ _ (i + 1, (g * V.getD i 0 + c) / 4294967296, t / 9223372036854775808, P.set i (t % 4294967296)) (by show m + 2 - (i + 1) < m + 2 - i; omega) ⟨hi, by simp [p2], p3.set _ t1.1 t1.2, t2.1, t2.2, t3.1, t3.2, drop_more p8 _, FIN⟩ ?_
    rw [← et']
    exact Hv
  · have ei : i = m + 2 := by omega
    subst ei
    obtain ⟨t, et, t1, t3, t4⟩ := dlast hpi ⟨p4, p5⟩ ⟨p6, p7⟩
    have et' := et.out
    have tb : 0 ≤ t ∧ t < 18446744073709551616 := by rw [← et']; omega
    have hw2 : Wf (P.set (m + 2) (t % 4294967296)) := p3.set _ t1.1 t1.2
    have fin : val (P.set (m + 2) (t % 4294967296)) + g * val V = val O + 4294967296 ^ (m + 3) * (t / 9223372036854775808) := by
      have h1 := p9.out
      have h2 := t4.out
      have e1 : val (P.set (m + 2) (t % 4294967296)) = val (P.take (m + 2)) + 4294967296 ^ (m + 2) * (t % 4294967296) := by
        rw [← val_take_set (by omega), List.take_of_length_le (by simp; omega)]
      have e2 : val O = val (O.take (m + 2)) + 4294967296 ^ (m + 2) * O.getD (m + 2) 0 := by
        rw [← val_take_at O, List.take_of_length_le (by omega)]
      rw [List.take_of_length_le (l := V) (by omega)] at h1
      rw [e1, e2, ← hPO, show m + 3 = m + 2 + 1 from rfl, pow_snoc (m + 2)]
      exact dlast_eq h1 h2
    have hOn := val_nonneg hw2
    have hOlt := val_lt hw2
    have hlen : (P.set (m + 2) (t % 4294967296)).length = m + 3 := by simp [p2]
    rw [hlen] at hOlt
    rcases (show t / 9223372036854775808 = 0 ∨ t / 9223372036854775808 = 1 by omega) with hb2 | hb2
    · rw [hb2, Int.mul_zero, Int.add_zero] at fin
      have hgle : g = q := by
        have h1 := HQ2.out
        rcases (show g = q ∨ g = q + 1 by omega) with h | h
        · exact h
        · rw [h] at fin; omega
      have eO : P.set (m + 2) (t % 4294967296) = fixN (m + 3) rr := by
        refine eq_of_val hw2 (fixN_wf _ _) (by rw [fixN_len]; omega) ?_
        have h1 := HM.out
        rw [hfv, h1, Int.mul_comm (val V)]
        rw [hgle] at fin
        omega
      clear fin hOn hOlt
      refine TH ?_
      refine ⟨wk_eq (by rw [hgle]), ?_⟩
      rw [← eO, show t % 4294967296 = P.getD (m + 2) 0 - c - b by omega]
    · rw [hb2, Int.mul_one] at fin
      have h1 := HQ.out
      have h2 := HQ2.out
      have hgle : g = q + 1 := by
        rcases (show g = q ∨ g = q + 1 by omega) with h | h
        · rw [h] at fin; omega
        · exact h
      have e2 : (q + 1) * val V = q * val V + val V := by grind
      rw [hgle, e2] at fin
      have hpl2 := pow_le (m := V.length) (n := m + 3) (by omega)
      have hm2 := HM.out
      rw [Int.mul_comm] at hm2
      have sum : val (P.set (m + 2) (t % 4294967296)) + val V = rr + 4294967296 ^ (m + 3) := by omega
      have SUM := Hd.mk sum
      clear sum fin e2 h1 h2 hOn hOlt hpl2 hm2
      refine T ?_
      rw [et']
      generalize hR : P.set (m + 2) (t % 4294967296) = R at *
      refine w_loop (α := Nat × Int × List Int) (fun p => [(.t 0, .hs 1000000 1 A.length (m + 3) 1), (.t 1, .vs (m + 2) (V.map u32)), (.t 5, .sc (.int .i64 (m + 2 : Int))), (.t 7, .sc (.int .u64 g)), (.t 15, u32 p.2.1), (.t 135, .sc (.int .i64 (m + 2 : Int))), (.t 136, .sc (.int .i64 p.1)), (.h 1000000, .blk 1 2 ((A ++ p.2.2 ++ D).map u32))])
        (fun p => p.1 ≤ m + 2 ∧ p.2.2.length = m + 3 ∧ Wf p.2.2 ∧ 0 ≤ p.2.1 ∧ p.2.1 < 2 ∧ p.2.2.drop p.1 = R.drop p.1 ∧ Hd (val (p.2.2.take p.1) + 4294967296 ^ p.1 * p.2.1 = val (R.take p.1) + val (V.take p.1))) (fun p => m + 2 - p.1)
        (0, 0, R) ⟨Nat.zero_le _, hlen, hw2, Int.le_refl 0, (by decide : (0 : Int) < 2), rfl, ⟨by simp [val]⟩⟩ ?_ ?_
      · exact Hv
      rintro ⟨i, c, P⟩ s ⟨p1, p2, p3, p4, p5, p8, p9⟩ J hJ
      simp only at p1 p2 p3 p4 p5 p8 p9
      have hPX : (A ++ P ++ D).length = A.length + (m + 3) + D.length := by simp [p2]; omega
      have hPO := getD_of_drop p8
      have hpi := p3.at i
      by_cases hi : i < m + 2
      · have hvi := hV.at i
        refine T (dcall_by (s_Add32 _ _ _ hpi.1 hpi.2 hvi.1 hvi.2 p4 p5) ?_)
        refine T ?_
        refine hJ _ (i + 1, (P.getD i 0 + V.getD i 0 + c) / 4294967296, P.set i ((P.getD i 0 + V.getD i 0 + c) % 4294967296)) (by show m + 2 - (i + 1) < m + 2 - i; omega) ⟨hi, by simp [p2], p3.set _ (by omega) (by omega), by show 0 ≤ _ / _; omega, by show _ / _ < (2 : Int); omega, drop_more p8 _, ⟨?_⟩⟩ Hv
        show val ((P.set i ((P.getD i 0 + V.getD i 0 + c) % 4294967296)).take (i + 1)) + 4294967296 ^ (i + 1) * ((P.getD i 0 + V.getD i 0 + c) / 4294967296) = val (R.take (i + 1)) + val (V.take (i + 1))
        rw [val_take_set (by omega), val_take_at R, val_take_at V, ← hPO, pow_snoc]
        exact put_step p9.out (by have := Int.mul_ediv_add_emod (P.getD i 0 + V.getD i 0 + c) 4294967296; omega)
      · have ei : i = m + 2 := by omega
        subst ei
        have hw3 : Wf (P.set (m + 2) ((P.getD (m + 2) 0 + c) % 4294967296)) := p3.set _ (by omega) (by omega)
        have eP : P.set (m + 2) ((P.getD (m + 2) 0 + c) % 4294967296) = fixN (m + 3) rr := by
          refine eq_of_val hw3 (fixN_wf _ _) (by rw [fixN_len]; simp [p2]) ?_
          have l3 := val_lt hw3
          have l4 := val_nonneg hw3
          rw [show (P.set (m + 2) ((P.getD (m + 2) 0 + c) % 4294967296)).length = m + 3 by simp [p2]] at l3
          have e1 : val (P.set (m + 2) ((P.getD (m + 2) 0 + c) % 4294967296)) = val (P.take (m + 2)) + 4294967296 ^ (m + 2) * ((P.getD (m + 2) 0 + c) % 4294967296) := by
            rw [← val_take_set (by omega), List.take_of_length_le (by simp; omega)]
          have e2 : val R = val (R.take (m + 2)) + 4294967296 ^ (m + 2) * R.getD (m + 2) 0 := by
            rw [← val_take_at R, List.take_of_length_le (by omega)]
          have h1 := p9.out
          rw [List.take_of_length_le (l := V) (by omega)] at h1
          have h2 := SUM.out
          rw [e2, ← hPO, show m + 3 = m + 2 + 1 from rfl, pow_snoc (m + 2)] at h2
          have h3 := back_eq h1 h2 (show P.getD (m + 2) 0 + c = (P.getD (m + 2) 0 + c) % 4294967296 + 4294967296 * ((P.getD (m + 2) 0 + c) / 4294967296) by omega)
          rw [← e1, ← pow_snoc (m + 2)] at h3
          have hp := HP.out
          rw [hfv]
          rcases (show (P.getD (m + 2) 0 + c) / 4294967296 = 0 ∨ (P.getD (m + 2) 0 + c) / 4294967296 = 1 by omega) with h | h
          · rw [h] at h3
            simp only [show m + 2 + 1 = m + 3 from rfl] at h3
            omega
          · rw [h] at h3
            omega
        refine TH ?_
        exact ⟨wk_eq (by rw [show g - 1 = q by omega]), by rw [eP]⟩
end Go.Ab
end
