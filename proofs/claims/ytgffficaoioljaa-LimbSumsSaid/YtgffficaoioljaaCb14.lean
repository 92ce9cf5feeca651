import Derived.Test.YtgffficaoioljaaCb9
import Derived.Test.YtgffficaoioljaaCb10
import Derived.Test.YtgffficaoioljaaCb11
section
namespace Go.Proofs.Ytgffficaoioljaa.PlN
open Go.RowKit Go.Proofs.Ytgffficaoioljaa.P Go.Proofs.Ytgffficaoioljaa.Pl Go.Proofs.Ytgffficaoioljaa.PlA Go.Proofs.YtgffficaoioljaaW.PrintWords Go.Proofs.YtgffficaoioljaaW.PrintLast Go.Proofs.YtgffficaoioljaaW.PrintMore
theorem trim_take_zero {l : List Int} {n : Nat} (h : n < l.length) (h0 : rd l (n : Int) = 0) : trim (l.take (n + 1)) = trim (l.take n) := by
  rw [take_succ h, h0, trim_zero]
theorem trim_take_ne {l : List Int} {n : Nat} (h : n < l.length) (h0 : rd l (n : Int) ≠ 0) : trim (l.take (n + 1)) = l.take (n + 1) := by
  rw [take_succ h, trim_snoc _ _ h0]
theorem cut_l0 (l : List Int) (hl : l.length ≤ 9223372036854775807) : ∀ n : Nat, n ≤ l.length → Ev (fun k => nats_cut.l0 k l (n : Int)) (trim (l.take n))
  | 0, _ => by
    refine Ev.step (f := fun _ => some []) (fun k => ?_) (Ev.now _)
    simp only [nats_cut.l0]
    rw [if_neg (by omega), if_pos (by omega), if_pos (by omega)]
    rfl
  | n + 1, h => by
    have hw : wrap64 (((n + 1 : Nat) : Int) - 1) = (n : Int) := by rw [w64 (by omega) (by omega)]; omega
    by_cases h0 : rd l (n : Int) = 0
    · rw [trim_take_zero (by omega) h0]
      refine Ev.step (fun k => ?_) (cut_l0 l hl n (by omega))
      simp only [nats_cut.l0]
      rw [hw, if_pos (by omega), if_pos (by omega), if_pos (by omega), if_pos h0]
    · rw [trim_take_ne (by omega) h0]
      refine Ev.step (f := fun _ => some (l.take (n + 1))) (fun k => ?_) (Ev.now _)
      simp only [nats_cut.l0]
      rw [hw, if_pos (by omega), if_pos (by omega), if_pos (by omega), if_neg h0, if_pos (by omega), if_pos (by omega), Int.toNat_natCast]
theorem cut (l : List Int) (hl : l.length ≤ 9223372036854775807) : Ev (fun k => nats_cut.f k l) (trim l) := by
  have := cut_l0 l hl l.length (Nat.le_refl _)
  rwa [List.take_length] at this
theorem cuto_l0 (l : List Int) (hl : l.length ≤ 9223372036854775807) : ∀ n : Nat, n ≤ l.length → Ev (fun k => nats_cuto.l0 k l (n : Int)) (trim (l.take n))
  | 0, _ => by
    refine Ev.step (f := fun _ => some []) (fun k => ?_) (Ev.now _)
    simp only [nats_cuto.l0]
    rw [if_neg (by omega), if_pos (by omega), if_pos (by omega)]
    rfl
  | n + 1, h => by
    have hw : wrap64 (((n + 1 : Nat) : Int) - 1) = (n : Int) := by rw [w64 (by omega) (by omega)]; omega
    by_cases h0 : rd l (n : Int) = 0
    · rw [trim_take_zero (by omega) h0]
      refine Ev.step (fun k => ?_) (cuto_l0 l hl n (by omega))
      simp only [nats_cuto.l0]
      rw [hw, if_pos (by omega), if_pos (by omega), if_pos (by omega), if_pos h0]
    · rw [trim_take_ne (by omega) h0]
      refine Ev.step (f := fun _ => some (l.take (n + 1))) (fun k => ?_) (Ev.now _)
      simp only [nats_cuto.l0]
      rw [hw, if_pos (by omega), if_pos (by omega), if_pos (by omega), if_neg h0, if_pos (by omega), if_pos (by omega), Int.toNat_natCast]
theorem cuto (l : List Int) (hl : l.length ≤ 9223372036854775807) : Ev (fun k => nats_cuto.f k l) (trim l) := by
  have := cuto_l0 l hl l.length (Nat.le_refl _)
  rwa [List.take_length] at this
def sgn (x y : Int) : Int := if x < y then -1 else if y < x then 1 else 0
theorem cmp_l0 (a b : List Int) (ha : Wf a) (hb : Wf b) (hla : a.length ≤ 9223372036854775807) (he : a.length = b.length) : ∀ n : Nat, n ≤ a.length → val (a.drop n) = val (b.drop n) → Ev (fun k => nats_Cmp.l0 k a b ((n : Int) - 1)) (sgn (val a) (val b))
  | 0, _, hd => by
    refine Ev.step (f := fun _ => some 0) (fun k => ?_) ?_
    · simp only [nats_Cmp.l0]
      rw [if_neg (by omega)]
    · rw [List.drop_zero, List.drop_zero] at hd
      have : sgn (val a) (val b) = 0 := by unfold sgn; rw [hd, if_neg (by omega), if_neg (by omega)]
      rw [this]
      exact Ev.now _
  | n + 1, h, hd => by
    have e1 : ((n + 1 : Nat) : Int) - 1 = (n : Int) := by omega
    have hw : wrap64 ((n : Int) - 1) = (n : Int) - 1 := w64 (by omega) (by omega)
    rw [e1]
    by_cases h0 : rd a (n : Int) = rd b (n : Int)
    · refine Ev.step (fun k => ?_) (cmp_l0 a b ha hb hla he n (by omega) ?_)
      · simp only [nats_Cmp.l0]
        rw [hw, if_pos (by omega), if_pos (by omega), if_pos (by omega), if_pos (by omega), if_pos h0]
      · rw [val_drop_rd (l := a) (by omega), val_drop_rd (l := b) (i := n) (by omega), h0, hd]
    · have ra := rd_wf ha (i := n) (by omega)
      have rb := rd_wf hb (i := n) (by omega)
      have va := val_cut a n (by omega)
      have vb := val_cut b n (by omega)
      rw [val_drop_rd (by omega)] at va vb
      have la := val_lt (ha.take n)
      have lb := val_lt (hb.take n)
      have na := val_nonneg (ha.take n)
      have nb := val_nonneg (hb.take n)
      rw [List.length_take, Nat.min_eq_left (by omega)] at la lb
      have hp := pow_pos' n
      refine Ev.step (f := fun _ => some (if rd a (n : Int) < rd b (n : Int) then (-1) else 1)) (fun k => ?_) ?_
      · simp only [nats_Cmp.l0]
        rw [if_pos (by omega), if_pos (by omega), if_pos (by omega), if_pos (by omega), if_neg h0]
        split <;> rfl
      · have hs : sgn (val a) (val b) = (if rd a (n : Int) < rd b (n : Int) then (-1) else 1) := by
          rw [va, vb, hd]
          generalize val (b.drop (n + 1)) = D at *
          generalize (4294967296 : Int) ^ n = P at *
          generalize rd a (n : Int) = x at *
          generalize rd b (n : Int) = y at *
          unfold sgn
          by_cases hxy : x < y
          · have : P * (x + 1) ≤ P * y := Int.mul_le_mul_of_nonneg_left (by omega) (Int.le_of_lt hp)
            rw [if_pos hxy, if_pos (by grind)]
          · have : P * (y + 1) ≤ P * x := Int.mul_le_mul_of_nonneg_left (by omega) (Int.le_of_lt hp)
            rw [if_neg hxy, if_neg (by grind), if_pos (by grind)]
        rw [hs]
        exact Ev.now _
theorem Is.lt_of_len {a b : List Int} {x y : Int} (ha : Is a x) (hb : Is b y) (h : a.length < b.length) : x < y := by
  have h1 := ha.lt
  have h2 := hb.ge (by intro e; rw [e] at h; simp at h)
  have h3 := pow_le (m := a.length) (n := b.length - 1) (by omega)
  omega
theorem cmp (a b : List Int) (ha : Wf a) (hb : Wf b) (hla : a.length ≤ 9223372036854775806) (hlb : b.length ≤ 9223372036854775806) : Ev (fun k => nats_Cmp.f k a b) (sgn (val a) (val b)) := by
  have ia := Is.of ha rfl
  have ib := Is.of hb rfl
  have la := trim_len a
  have lb := trim_len b
  unfold nats_Cmp.f
  refine Ev.bind (cut a (by omega)) (Ev.bind (cut b (by omega)) ?_)
  by_cases he : (trim a).length = (trim b).length
  · refine Ev.congr (f := fun k => nats_Cmp.l0 k (trim a) (trim b) (((trim a).length : Int) - 1)) (fun k => ?_) ?_
    · rw [if_pos (by omega), w64 (by omega) (by omega)]
    · have := cmp_l0 (trim a) (trim b) ia.wf ib.wf (by omega) he (trim a).length (Nat.le_refl _) (by rw [List.drop_length, he, List.drop_length])
      rwa [ia.val, ib.val] at this
  · refine Ev.congr (f := fun k => some (if (trim a).length < (trim b).length then (-1) else 1)) (fun k => ?_) ?_
    · rw [if_neg (by omega)]
      by_cases h : (trim a).length < (trim b).length
      · rw [if_pos (by omega), if_pos h]
      · rw [if_neg (by omega), if_neg h]
    · have hs : sgn (val a) (val b) = (if (trim a).length < (trim b).length then (-1) else 1) := by
        unfold sgn
        by_cases h : (trim a).length < (trim b).length
        · have := Is.lt_of_len ia ib h
          rw [if_pos h, if_pos this]
        · have := Is.lt_of_len ib ia (by omega)
          rw [if_neg h, if_neg (by omega), if_pos this]
      rw [hs]
      exact Ev.now _
end Go.Proofs.Ytgffficaoioljaa.PlN
end
section
namespace Go.Proofs.Ytgffficaoioljaa.PlN
open Go.RowKit Go.Proofs.Ytgffficaoioljaa.P Go.Proofs.Ytgffficaoioljaa.Pl Go.Proofs.Ytgffficaoioljaa.PlA Go.Proofs.YtgffficaoioljaaW.PrintWords Go.Proofs.YtgffficaoioljaaW.PrintLast Go.Proofs.YtgffficaoioljaaW.PrintMore
theorem val_take_succ' (l : List Int) (i : Nat) : val (l.take (i + 1)) = val (l.take i) + 4294967296 ^ i * rd l (i : Int) := by
  rcases Nat.lt_or_ge i l.length with h | h
  · exact val_take_succ h
  · rw [val_take_big h, val_take_big (Nat.le_succ_of_le h), rd_big h]; simp
theorem rd_wf' {l : List Int} (hw : Wf l) (i : Nat) : 0 ≤ rd l (i : Int) ∧ rd l (i : Int) < 4294967296 := by
  rcases Nat.lt_or_ge i l.length with h | h
  · exact rd_wf hw h
  · rw [rd_big h]; omega
theorem add32 {x y c : Int} (hx : 0 ≤ x ∧ x < 4294967296) (hy : 0 ≤ y ∧ y < 4294967296) (hc : 0 ≤ c ∧ c ≤ 1) : bits_Add32.f x y c = some ((x + y + c) % 4294967296, (x + y + c) / 4294967296) := by
  unfold bits_Add32.f
  rw [u64 (x := x) (by omega) (by omega), u64 (x := y) (by omega) (by omega), u64 (x := c) (by omega) (by omega), u64 (x := x + y) (by omega) (by omega), u64 (x := x + y + c) (by omega) (by omega)]
  rw [show (x + y + c) / 4294967296 % 4294967296 = (x + y + c) / 4294967296 from by omega]
theorem pow_succ' (n : Nat) : (4294967296 : Int) ^ (n + 1) = 4294967296 ^ n * 4294967296 := Int.pow_succ _ _
theorem add32' {x y c : Int} (hx : 0 ≤ x ∧ x < 4294967296) (hy : 0 ≤ y ∧ y < 4294967296) (hc : 0 ≤ c ∧ c ≤ 1) : ∃ s c2, bits_Add32.f x y c = some (s, c2) ∧ (0 ≤ s ∧ s < 4294967296) ∧ (0 ≤ c2 ∧ c2 ≤ 1) ∧ s + 4294967296 * c2 = x + y + c :=
  ⟨_, _, add32 hx hy hc, by omega, by omega, by omega⟩
theorem add_l0 (a b : List Int) (ha : Wf a) (hb : Wf b) (hl : a.length < 35184372088831) : ∀ (d i : Nat) (out : List Int) (c : Int), d + i = a.length → out.length = i → Wf out → 0 ≤ c ∧ c ≤ 1 → b.length ≤ a.length →
    Hd (val out + 4294967296 ^ i * c = val (a.take i) + val (b.take i)) → ∃ r, Ev (fun k => nats_Add.l0 k a b out c (a.length : Int) (i : Int)) r ∧ Is r (val a + val b)
  | 0, i, out, c, hi, ho, hw, hc, hab, hv => by
    have e1 : a.take i = a := List.take_of_length_le (by omega)
    have e2 : b.take i = b := List.take_of_length_le (by omega)
    refine ⟨trim (out ++ [c]), ?_, Is.of (hw.append (Wf.one hc.1 (by omega))) (by rw [val_snoc, ho]; replace hv := hv.out; rw [e1, e2] at hv; exact hv)⟩
    clear hv
    refine Ev.step (f := fun k => (nats_cuto.f k (out ++ [c])).bind fun t => some t) (fun k => ?_) (Ev.bind (cuto _ (by simp; omega)) (Ev.now _))
    simp only [nats_Add.l0]
    rw [if_neg (by omega), if_pos (by omega)]
  | d + 1, i, out, c, hi, ho, hw, hc, hab, hv => by
    obtain ⟨s, c2, h32, hs0, hc2, hs⟩ := add32' (rd_wf' ha i) (rd_wf' hb i) hc
    have hv2 : Hd (val (out ++ [s]) + 4294967296 ^ (i + 1) * c2 = val (a.take (i + 1)) + val (b.take (i + 1))) := ⟨by
      replace hv := hv.out
      rw [val_snoc, ho, pow_succ', val_take_succ' a, val_take_succ' b]
      generalize (4294967296 : Int) ^ i = P at *
      generalize rd a (i : Int) = x at *
      generalize rd b (i : Int) = y at *
      grind⟩
    clear hv hs
    obtain ⟨r, hr, hI⟩ := add_l0 a b ha hb hl d (i + 1) (out ++ [s]) c2 (by omega) (by simp [ho]) (hw.append (Wf.one hs0.1 hs0.2)) hc2 hab hv2
    refine ⟨r, ?_, hI⟩
    have hw1 : wrap64 ((i : Int) + 1) = ((i + 1 : Nat) : Int) := by rw [w64 (by omega) (by omega)]; omega
    clear hv2 hI ha hb hw
    refine Ev.step (fun k => ?_) hr
    simp only [nats_Add.l0]
    rw [if_pos (by omega)]
    by_cases hib : i < b.length
    · rw [if_pos (by omega), if_pos (by omega), if_pos (by omega), h32]
      simp only [Option.bind_some]
      rw [if_pos (by omega), hw1]
    · have hy0 : rd b (i : Int) = 0 := rd_big (by omega)
      rw [if_neg (by omega), if_pos (by omega), if_pos (by omega)]
      rw [hy0] at h32
      rw [h32]
      simp only [Option.bind_some]
      rw [if_pos (by omega), hw1]
theorem add_j0 (a b : List Int) (ha : Wf a) (hb : Wf b) (hl : a.length < 35184372088831) (hab : b.length ≤ a.length) : ∃ r, Ev (fun k => nats_Add.j0 k a b) r ∧ Is r (val a + val b) := by
  obtain ⟨r, hr, hI⟩ := add_l0 a b ha hb hl a.length 0 [] 0 (by omega) rfl Wf.nil (by omega) hab ⟨by simp [val]⟩
  refine ⟨r, ?_, hI⟩
  refine Ev.step (fun k => ?_) hr
  simp only [nats_Add.j0]
  rw [w64 (by omega) (by omega), if_pos (by omega), if_pos (by omega)]
  rfl
theorem add (a b : List Int) (ha : Wf a) (hb : Wf b) (hl : a.length < 35184372088831) (hlb : b.length < 35184372088831) : ∃ r, Ev (fun k => nats_Add.f k a b) r ∧ Is r (val a + val b) := by
  unfold nats_Add.f
  by_cases h : (a.length : Int) < (b.length : Int)
  · obtain ⟨r, hr, hI⟩ := add_j0 b a hb ha hlb (by omega)
    exact ⟨r, Ev.congr (fun k => if_pos h) hr, by rw [Int.add_comm]; exact hI⟩
  · obtain ⟨r, hr, hI⟩ := add_j0 a b ha hb hl (by omega)
    exact ⟨r, Ev.congr (fun k => if_neg h) hr, hI⟩
theorem top32 {n : Nat} (h : n < 4294967296) : n / 2147483648 = if n.testBit 31 then 1 else 0 := by
  rw [Nat.testBit_eq_decide_div_mod_eq]
  by_cases h1 : n / 2 ^ 31 % 2 = 1
  · rw [decide_eq_true h1]; simp; omega
  · rw [decide_eq_false h1]; simp; omega
theorem bit31 {n : Nat} (h : n < 4294967296) : n.testBit 31 = decide (2147483648 ≤ n) := by
  rw [Nat.testBit_eq_decide_div_mod_eq]
  by_cases h1 : 2147483648 ≤ n
  · rw [decide_eq_true h1]; simp; omega
  · rw [decide_eq_false h1]; simp; omega
theorem not31 {n : Nat} (h : n < 4294967296) : (4294967295 ^^^ n).testBit 31 = !decide (2147483648 ≤ n) := by
  rw [Nat.testBit_xor, bit31 h, bit31 (by decide)]; simp
theorem sub32 {x y c : Int} (hx : 0 ≤ x ∧ x < 4294967296) (hy : 0 ≤ y ∧ y < 4294967296) (hc : 0 ≤ c ∧ c ≤ 1) : bits_Sub32.f x y c = some ((x - y - c) % 4294967296, if x < y + c then 1 else 0) := by
  obtain ⟨m, rfl⟩ := Int.eq_ofNat_of_zero_le hx.1
  obtain ⟨n, rfl⟩ := Int.eq_ofNat_of_zero_le hy.1
  have hm : m < 4294967296 := by omega
  have hn : n < 4294967296 := by omega
  unfold bits_Sub32.f
  have hd : (((m : Int) - n) % 4294967296 - c) % 4294967296 = ((m : Int) - n - c) % 4294967296 := by omega
  rw [hd]
  obtain ⟨d, hd2⟩ := Int.eq_ofNat_of_zero_le (show 0 ≤ ((m : Int) - n - c) % 4294967296 by omega)
  have hdl : d < 4294967296 := by omega
  have e1 : Go.bits .xor .u32 4294967295 (m : Int) = ((4294967295 ^^^ m : Nat) : Int) := u32_xor_nat 4294967295 m (by decide) hm
  have e2 : Go.bits .xor .u32 (m : Int) (n : Int) = ((m ^^^ n : Nat) : Int) := u32_xor_nat m n hm hn
  have hmn : m ^^^ n < 4294967296 := Nat.xor_lt_two_pow (n := 32) hm hn
  have hnm : 4294967295 ^^^ m < 4294967296 := Nat.xor_lt_two_pow (n := 32) (by decide) hm
  have hnmn : 4294967295 ^^^ (m ^^^ n) < 4294967296 := Nat.xor_lt_two_pow (n := 32) (by decide) hmn
  have e3 : Go.bits .xor .u32 4294967295 ((m ^^^ n : Nat) : Int) = ((4294967295 ^^^ (m ^^^ n) : Nat) : Int) := u32_xor_nat 4294967295 _ (by decide) hmn
  have e4 : Go.bits .and .u32 ((4294967295 ^^^ m : Nat) : Int) (n : Int) = (((4294967295 ^^^ m) &&& n : Nat) : Int) := u32_and_nat _ _ hnm hn
  have e5 : Go.bits .and .u32 ((4294967295 ^^^ (m ^^^ n) : Nat) : Int) (d : Int) = (((4294967295 ^^^ (m ^^^ n)) &&& d : Nat) : Int) := u32_and_nat _ _ hnmn hdl
  have ha1 : (4294967295 ^^^ m) &&& n < 4294967296 := Nat.lt_of_le_of_lt Nat.and_le_right hn
  have ha2 : (4294967295 ^^^ (m ^^^ n)) &&& d < 4294967296 := Nat.lt_of_le_of_lt Nat.and_le_right hdl
  have e6 : Go.bits .or .u32 (((4294967295 ^^^ m) &&& n : Nat) : Int) (((4294967295 ^^^ (m ^^^ n)) &&& d : Nat) : Int) = ((((4294967295 ^^^ m) &&& n) ||| ((4294967295 ^^^ (m ^^^ n)) &&& d) : Nat) : Int) := u32_or_nat _ _ ha1 ha2
  have ho : ((4294967295 ^^^ m) &&& n) ||| ((4294967295 ^^^ (m ^^^ n)) &&& d) < 4294967296 := Nat.or_lt_two_pow (n := 32) ha1 ha2
  rw [hd2, e1, e2, e3, e4, e5, e6]
  congr 2
  have ht := top32 ho
  have hb : (((4294967295 ^^^ m) &&& n) ||| ((4294967295 ^^^ (m ^^^ n)) &&& d)).testBit 31 = decide ((m : Int) < n + c) := by
    rw [Nat.testBit_or, Nat.testBit_and, Nat.testBit_and, not31 hm, Nat.testBit_xor, Nat.testBit_xor, bit31 hm, bit31 hn, bit31 hdl, bit31 (show 4294967295 < 4294967296 by decide)]
    by_cases c1 : 2147483648 ≤ m <;> by_cases c2 : 2147483648 ≤ n <;> by_cases c3 : 2147483648 ≤ d <;> simp only [c1, c2, c3, decide_true, decide_false] <;> (by_cases c4 : (m : Int) < n + c <;> simp only [c4, decide_true, decide_false] <;> first | rfl | omega)
  rw [hb] at ht
  by_cases c4 : (m : Int) < n + c
  · rw [if_pos c4]
    rw [decide_eq_true c4] at ht
    simp at ht
    omega
  · rw [if_neg c4]
    rw [decide_eq_false c4] at ht
    simp at ht
    omega
theorem sub32' {x y c : Int} (hx : 0 ≤ x ∧ x < 4294967296) (hy : 0 ≤ y ∧ y < 4294967296) (hc : 0 ≤ c ∧ c ≤ 1) : ∃ s c2, bits_Sub32.f x y c = some (s, c2) ∧ (0 ≤ s ∧ s < 4294967296) ∧ (0 ≤ c2 ∧ c2 ≤ 1) ∧ s + y + c = x + 4294967296 * c2 := by
  refine ⟨_, _, sub32 hx hy hc, by omega, ?_, ?_⟩
  · split <;> omega
  · split <;> omega
theorem sub_l0 (a b : List Int) (ha : Wf a) (hb : Wf b) (hl : a.length < 35184372088831) (hba : b.length ≤ a.length) (hle : val b ≤ val a) : ∀ (d i : Nat) (out : List Int) (c : Int), d + i = a.length → out.length = a.length → Wf out → 0 ≤ c ∧ c ≤ 1 →
    Hd (val (out.take i) + val (b.take i) = val (a.take i) + 4294967296 ^ i * c) → ∃ r, Ev (fun k => nats_Sub.l0 k a b out c (a.length : Int) (i : Int)) r ∧ Is r (val a - val b)
  | 0, i, out, c, hi, ho, hw, hc, hv => by
    have e1 : a.take i = a := List.take_of_length_le (by omega)
    have e2 : b.take i = b := List.take_of_length_le (by omega)
    have e3 : out.take i = out := List.take_of_length_le (by omega)
    have h2 : c = 0 := by
      have h1 := val_lt hw
      replace hv := hv.out
      rw [e1, e2, e3] at hv
      rcases Int.lt_or_le 0 c with h | h
      · have : c = 1 := by omega
        subst this
        rw [ho, show a.length = i from by omega] at h1
        rw [Int.mul_one] at hv
        generalize (4294967296 : Int) ^ i = P at *
        omega
      · omega
    subst h2
    refine ⟨trim out, ?_, Is.of hw (by replace hv := hv.out; rw [e1, e2, e3, Int.mul_zero] at hv; omega)⟩
    clear hv
    refine Ev.step (f := fun k => (nats_cuto.f k out).bind fun t => some t) (fun k => ?_) (Ev.bind (cuto _ (by omega)) (Ev.now _))
    simp only [nats_Sub.l0]
    rw [if_neg (by omega)]
  | d + 1, i, out, c, hi, ho, hw, hc, hv => by
    obtain ⟨s, c2, h32, hs0, hc2, hs⟩ := sub32' (rd_wf' ha i) (rd_wf' hb i) hc
    have hv2 : Hd (val ((out.set i s).take (i + 1)) + val (b.take (i + 1)) = val (a.take (i + 1)) + 4294967296 ^ (i + 1) * c2) := ⟨by
      replace hv := hv.out
      rw [val_take_set (by omega), pow_succ', val_take_succ' a, val_take_succ' b]
      generalize (4294967296 : Int) ^ i = P at *
      generalize rd a (i : Int) = x at *
      generalize rd b (i : Int) = y at *
      grind⟩
    clear hv hs
    obtain ⟨r, hr, hI⟩ := sub_l0 a b ha hb hl hba hle d (i + 1) (out.set i s) c2 (by omega) (by simp [ho]) (hw.set _ hs0.1 hs0.2) hc2 hv2
    refine ⟨r, ?_, hI⟩
    have hw1 : wrap64 ((i : Int) + 1) = ((i + 1 : Nat) : Int) := by rw [w64 (by omega) (by omega)]; omega
    clear hv2 hI hle ha hb hw
    refine Ev.step (fun k => ?_) hr
    simp only [nats_Sub.l0]
    rw [if_pos (by omega)]
    by_cases hib : i < b.length
    · rw [if_pos (by omega), if_pos (by omega), if_pos (by omega), h32]
      simp only [Option.bind_some]
      rw [if_pos (by omega), hw1, Int.toNat_natCast]
    · have hy0 : rd b (i : Int) = 0 := rd_big (by omega)
      rw [if_neg (by omega), if_pos (by omega), if_pos (by omega)]
      rw [hy0] at h32
      rw [h32]
      simp only [Option.bind_some]
      rw [if_pos (by omega), hw1, Int.toNat_natCast]
theorem sub (a b : List Int) (ha : Wf a) (hb : Wf b) (hl : a.length < 35184372088831) (hlb : b.length < 35184372088831) (hle : val b ≤ val a) : ∃ r, Ev (fun k => nats_Sub.f k a b) r ∧ Is r (val a - val b) := by
  have ia := Is.of ha rfl
  have ib := Is.of hb rfl
  have la := trim_len a
  have lb := trim_len b
  have hba : (trim b).length ≤ (trim a).length := by
    rcases Nat.lt_or_ge (trim a).length (trim b).length with h | h
    · have := Is.lt_of_len ia ib h
      omega
    · exact h
  obtain ⟨r, hr, hI⟩ := sub_l0 (trim a) (trim b) ia.wf ib.wf (by omega) hba (by rw [ia.val, ib.val]; exact hle) (trim a).length 0 (List.replicate (trim a).length 0) 0 (by omega) (by simp) (Wf.zeros _) (by omega) ⟨by simp [val]⟩
  rw [ia.val, ib.val] at hI
  refine ⟨r, ?_, hI⟩
  unfold nats_Sub.f
  refine Ev.bind (cut a (by omega)) (Ev.bind (cut b (by omega)) ?_)
  refine Ev.congr (fun k => ?_) hr
  rw [if_pos (by omega), if_pos (by omega), Int.toNat_natCast]
  rfl
end Go.Proofs.Ytgffficaoioljaa.PlN
end
section
namespace Go.Proofs.Ytgffficaoioljaa.PlN
open Go.RowKit Go.Proofs.Ytgffficaoioljaa.P Go.Proofs.Ytgffficaoioljaa.Pl Go.Proofs.Ytgffficaoioljaa.PlA Go.Proofs.YtgffficaoioljaaW.PrintWords Go.Proofs.YtgffficaoioljaaW.PrintLast Go.Proofs.YtgffficaoioljaaW.PrintMore
theorem drop_set_lt {l : List Int} {i n : Nat} (h : i < n) (x : Int) : (l.set i x).drop n = l.drop n := by
  apply List.ext_getElem?
  intro k
  rw [List.getElem?_drop, List.getElem?_drop, List.getElem?_set_ne (by omega)]
theorem rd_drop (l : List Int) (n k : Nat) : rd (l.drop n) (k : Int) = rd l ((n + k : Nat) : Int) := by
  rw [rd_nat, rd_nat]; simp [List.getD_eq_getElem?_getD, List.getElem?_drop]
theorem winc {i : Nat} (h : i ≤ 140737488355328) : wrap64 ((i : Int) + 1) = ((i + 1 : Nat) : Int) := by rw [w64 (by omega) (by omega)]; omega
end Go.Proofs.Ytgffficaoioljaa.PlN
end
section
namespace Go.Proofs.Ytgffficaoioljaa.PlN
open Go.RowKit Go.Proofs.Ytgffficaoioljaa.P Go.Proofs.Ytgffficaoioljaa.Pl Go.Proofs.Ytgffficaoioljaa.PlA Go.Proofs.YtgffficaoioljaaW.PrintWords Go.Proofs.YtgffficaoioljaaW.PrintLast Go.Proofs.YtgffficaoioljaaW.PrintMore
set_option linter.unusedVariables false
theorem wdec {i : Nat} (h : i + 1 ≤ 140737488355328) : wrap64 (((i + 1 : Nat) : Int) - 1) = (i : Int) := by rw [w64 (by omega) (by omega)]; omega
theorem own (l : List Int) (h : l.length < 35184372088832) : sibyllaw01_own.f l = some l := by
  unfold sibyllaw01_own.f
  simp only [Option.bind_some, List.length_nil, List.nil_append]
  rw [if_pos (by omega)]
theorem rtrim_l1_step (k : Nat) (l out : List Int) (n i : Nat) (h : i < n) (hn : n ≤ l.length) (ho : out.length < 35184372088832) (hi : i ≤ 70368744177664) :
    sibylref01_Trim.l1 (k + 1) l (n : Int) out (i : Int) = sibylref01_Trim.l1 k l (n : Int) (out ++ [rd l (i : Int)]) ((i + 1 : Nat) : Int) := by
  simp only [sibylref01_Trim.l1]
  rw [if_pos (by omega), if_pos (by omega), if_pos (by omega), if_pos ho, winc (by omega)]
theorem rtrim_l1 (l : List Int) (n : Nat) (hn : n ≤ l.length) (hn2 : n ≤ 35184372088832) : ∀ (d i : Nat), d + i = n → Ev (fun k => sibylref01_Trim.l1 k l (n : Int) (l.take i) (i : Int)) (l.take n)
  | 0, i, hi => by
    have : i = n := by omega
    subst this
    refine Ev.step (f := fun _ => some (l.take i)) (fun k => ?_) (Ev.now _)
    simp only [sibylref01_Trim.l1]
    rw [if_neg (by omega)]
  | d + 1, i, hi => by
    have ih := rtrim_l1 l n hn hn2 d (i + 1) (by omega)
    rw [take_succ (show i < l.length by omega)] at ih
    exact Ev.step (fun k => rtrim_l1_step k l (l.take i) n i (by omega) hn (by rw [List.length_take]; omega) (by omega)) ih
theorem rtrim_l0_zero (k : Nat) (l : List Int) (n : Nat) (h : n < l.length) (hl : l.length ≤ 70368744177664) (h0 : rd l (n : Int) = 0) : sibylref01_Trim.l0 (k + 1) l ((n + 1 : Nat) : Int) = sibylref01_Trim.l0 k l (n : Int) := by
  simp only [sibylref01_Trim.l0]
  rw [wdec (by omega), if_pos (by omega), if_pos (by omega), if_pos (by omega), if_pos h0]
theorem rtrim_l0_ne (k : Nat) (l : List Int) (n : Nat) (h : n < l.length) (hl : l.length ≤ 70368744177664) (h0 : rd l (n : Int) ≠ 0) : sibylref01_Trim.l0 (k + 1) l ((n + 1 : Nat) : Int) = sibylref01_Trim.j1 k l ((n + 1 : Nat) : Int) := by
  simp only [sibylref01_Trim.l0]
  rw [wdec (by omega), if_pos (by omega), if_pos (by omega), if_pos (by omega), if_neg h0]
theorem rtrim_j1 (l : List Int) (n : Nat) (hn : n ≤ l.length) (hn2 : n ≤ 35184372088832) : Ev (fun k => sibylref01_Trim.j1 k l (n : Int)) (l.take n) := by
  have h := rtrim_l1 l n hn hn2 n 0 (by omega)
  refine Ev.step (fun k => ?_) h
  simp only [sibylref01_Trim.j1]
  rfl
theorem rtrim_l0 (l : List Int) (hl : l.length ≤ 70368744177664) : ∀ n : Nat, n ≤ l.length → (trim (l.take n)).length ≤ 35184372088832 → Ev (fun k => sibylref01_Trim.l0 k l (n : Int)) (trim (l.take n))
  | 0, _, _ => by
    have h := rtrim_j1 l 0 (Nat.zero_le _) (by omega)
    refine Ev.step (fun k => ?_) h
    simp only [sibylref01_Trim.l0]
    rw [if_neg (by omega)]
  | n + 1, h, hn2 => by
    by_cases h0 : rd l (n : Int) = 0
    · rw [trim_take_zero (by omega) h0] at hn2 ⊢
      exact Ev.step (fun k => rtrim_l0_zero k l n (by omega) hl h0) (rtrim_l0 l hl n (by omega) hn2)
    · rw [trim_take_ne (by omega) h0] at hn2 ⊢
      rw [List.length_take] at hn2
      exact Ev.step (fun k => rtrim_l0_ne k l n (by omega) hl h0) (rtrim_j1 l (n + 1) h (by omega))
theorem rtrim (l : List Int) (hl : l.length ≤ 70368744177664) (ht : (trim l).length ≤ 35184372088832) : Ev (fun k => sibylref01_Trim.f k l) (trim l) := by
  have := rtrim_l0 l hl l.length (Nat.le_refl _) (by rw [List.take_length]; exact ht)
  rwa [List.take_length] at this
theorem rtrim' (l : List Int) (hl : l.length ≤ 35184372088832) : Ev (fun k => sibylref01_Trim.f k l) (trim l) :=
  rtrim l (by omega) (Nat.le_trans (trim_len l) hl)
def fitOf (l : List Int) : List Int × Int := if (l.length : Int) > 16 then ([], 4) else (l, 0)
theorem rfit (l : List Int) (hl : l.length ≤ 35184372088832) : Ev (fun k => sibylref01_Fit.f k l) (fitOf (trim l)) := by
  unfold sibylref01_Fit.f
  refine Ev.bind (rtrim' l hl) ?_
  unfold fitOf
  split <;> exact Ev.now _
theorem fit (l : List Int) : limb_fit.f l = some (fitOf l) := by
  unfold limb_fit.f fitOf
  split <;> rfl
theorem rsame_step (k : Nat) (a b : List Int) (i : Nat) (h1 : i < a.length) (h2 : i < b.length) (h3 : a.length ≤ 70368744177664) (h : rd a (i : Int) = rd b (i : Int)) : sibylref01_Same.l0 (k + 1) a b (i : Int) = sibylref01_Same.l0 k a b ((i + 1 : Nat) : Int) := by
  simp only [sibylref01_Same.l0]
  rw [if_pos (by omega), if_pos (by omega), if_pos (by omega), if_pos h, winc (by omega)]
theorem rsame_l0 (a : List Int) (hl : a.length ≤ 70368744177664) : ∀ (d i : Nat), d + i = a.length → Ev (fun k => sibylref01_Same.l0 k a a (i : Int)) true
  | 0, i, hi => by
    refine Ev.step (f := fun _ => some true) (fun k => ?_) (Ev.now _)
    simp only [sibylref01_Same.l0]
    rw [if_neg (by omega)]
  | d + 1, i, hi => Ev.step (fun k => rsame_step k a a i (by omega) (by omega) hl rfl) (rsame_l0 a hl d (i + 1) (by omega))
theorem rsame_refl (a : List Int) (hl : a.length ≤ 70368744177664) : Ev (fun k => sibylref01_Same.f k a a) true := by
  unfold sibylref01_Same.f
  refine Ev.congr (fun k => if_pos rfl) (rsame_l0 a hl a.length 0 (by omega))
theorem tmod_eq {x : Int} (h : 0 ≤ x) : Int.tmod x 4294967296 = x % 4294967296 := Int.tmod_eq_emod_of_nonneg h
theorem tdiv_eq {x : Int} (h : 0 ≤ x) : Int.tdiv x 4294967296 = x / 4294967296 := Int.tdiv_eq_ediv_of_nonneg h
end Go.Proofs.Ytgffficaoioljaa.PlN
end
section
namespace Go.Proofs.Ytgffficaoioljaa.PlN
open Go.RowKit Go.Proofs.Ytgffficaoioljaa.P Go.Proofs.Ytgffficaoioljaa.Pl Go.Proofs.Ytgffficaoioljaa.PlA Go.Proofs.YtgffficaoioljaaW.PrintWords Go.Proofs.YtgffficaoioljaaW.PrintLast Go.Proofs.YtgffficaoioljaaW.PrintMore
set_option linter.unusedVariables false
theorem wsub1 {i : Nat} (h : i ≤ 140737488355328) : wrap64 ((i : Int) - 1) = (i : Int) - 1 := w64 (by omega) (by omega)
theorem rcmp_same (k : Nat) (a b : List Int) (n : Nat) (h1 : n < a.length) (h2 : n < b.length) (h3 : n ≤ 70368744177664) (h : rd a (n : Int) = rd b (n : Int)) : sibylref01_Cmp.l0 (k + 1) a b (n : Int) = sibylref01_Cmp.l0 k a b ((n : Int) - 1) := by
  simp only [sibylref01_Cmp.l0]
  rw [wsub1 (by omega), if_pos (by omega), if_pos (by omega), if_pos (by omega), if_pos (by omega), h, if_neg (by omega), if_neg (by omega)]
theorem rcmp_diff (k : Nat) (a b : List Int) (n : Nat) (h1 : n < a.length) (h2 : n < b.length) (h : rd a (n : Int) ≠ rd b (n : Int)) : sibylref01_Cmp.l0 (k + 1) a b (n : Int) = some (if rd a (n : Int) < rd b (n : Int) then (-1) else 1) := by
  simp only [sibylref01_Cmp.l0]
  rw [if_pos (by omega), if_pos (by omega), if_pos (by omega), if_pos (by omega)]
  by_cases c : rd a (n : Int) < rd b (n : Int)
  · rw [if_pos c, if_pos c]
  · rw [if_neg c, if_neg c, if_pos (by omega)]
theorem sgn_at (a b : List Int) (ha : Wf a) (hb : Wf b) (n : Nat) (h1 : n < a.length) (h2 : n < b.length) (hd : val (a.drop (n + 1)) = val (b.drop (n + 1))) (h0 : rd a (n : Int) ≠ rd b (n : Int)) :
    sgn (val a) (val b) = (if rd a (n : Int) < rd b (n : Int) then (-1) else 1) := by
  have ra := rd_wf ha h1
  have rb := rd_wf hb h2
  have va := val_cut a n (by omega)
  have vb := val_cut b n (by omega)
  rw [val_drop_rd h1] at va
  rw [val_drop_rd h2] at vb
  have la := val_lt (ha.take n)
  have lb := val_lt (hb.take n)
  have na := val_nonneg (ha.take n)
  have nb := val_nonneg (hb.take n)
  rw [List.length_take, Nat.min_eq_left (by omega)] at la lb
  have hp := pow_pos' n
  rw [va, vb, hd]
  generalize val (b.drop (n + 1)) = D at *
  generalize (4294967296 : Int) ^ n = P at *
  generalize rd a (n : Int) = x at *
  generalize rd b (n : Int) = y at *
  unfold sgn
  by_cases hxy : x < y
  · have : P * (x + 1) ≤ P * y := Int.mul_le_mul_of_nonneg_left (by omega) (Int.le_of_lt hp)
    rw [if_pos hxy, if_pos (by grind)]
  · have : P * (y + 1) ≤ P * x := Int.mul_le_mul_of_nonneg_left (by omega) (Int.le_of_lt hp)
    rw [if_neg hxy, if_neg (by grind), if_pos (by grind)]
theorem rcmp_l0 (a b : List Int) (ha : Wf a) (hb : Wf b) (hla : a.length ≤ 70368744177664) (he : a.length = b.length) : ∀ n : Nat, n ≤ a.length → val (a.drop n) = val (b.drop n) → Ev (fun k => sibylref01_Cmp.l0 k a b ((n : Int) - 1)) (sgn (val a) (val b))
  | 0, _, hd => by
    refine Ev.step (f := fun _ => some 0) (fun k => ?_) ?_
    · simp only [sibylref01_Cmp.l0]
      rw [if_neg (by omega)]
    · rw [List.drop_zero, List.drop_zero] at hd
      have : sgn (val a) (val b) = 0 := by unfold sgn; rw [hd, if_neg (by omega), if_neg (by omega)]
      rw [this]
      exact Ev.now _
  | n + 1, h, hd => by
    have e1 : ((n + 1 : Nat) : Int) - 1 = (n : Int) := by omega
    rw [e1]
    by_cases h0 : rd a (n : Int) = rd b (n : Int)
    · exact Ev.step (fun k => rcmp_same k a b n (by omega) (by omega) (by omega) h0) (rcmp_l0 a b ha hb hla he n (by omega) (by rw [val_drop_rd (l := a) (by omega), val_drop_rd (l := b) (i := n) (by omega), h0, hd]))
    · rw [sgn_at a b ha hb n (by omega) (by omega) hd h0]
      exact Ev.step (fun k => rcmp_diff k a b n (by omega) (by omega) h0) (Ev.now _)
theorem sgn_of_len {a b : List Int} {x y : Int} (ha : Is a x) (hb : Is b y) (h : a.length < b.length) : sgn x y = -1 := by
  have := Is.lt_of_len ha hb h
  unfold sgn
  rw [if_pos this]
theorem sgn_of_len' {a b : List Int} {x y : Int} (ha : Is a x) (hb : Is b y) (h : b.length < a.length) : sgn x y = 1 := by
  have := Is.lt_of_len hb ha h
  unfold sgn
  rw [if_neg (by omega), if_pos this]
theorem rcmp (a b : List Int) (ha : Wf a) (hb : Wf b) (hla : a.length ≤ 35184372088832) (hlb : b.length ≤ 35184372088832) : Ev (fun k => sibylref01_Cmp.f k a b) (sgn (val a) (val b)) := by
  have ia := Is.of ha rfl
  have ib := Is.of hb rfl
  have la := trim_len a
  have lb := trim_len b
  unfold sibylref01_Cmp.f
  refine Ev.bind (rtrim' a (by omega)) (Ev.bind (rtrim' b (by omega)) ?_)
  by_cases h1 : (trim a).length < (trim b).length
  · rw [sgn_of_len ia ib h1]
    exact Ev.congr (fun k => if_pos (by omega)) (Ev.now _)
  · refine Ev.congr (fun k => if_neg (by omega)) ?_
    by_cases h2 : (trim b).length < (trim a).length
    · rw [sgn_of_len' ia ib h2]
      exact Ev.congr (fun k => if_pos (by omega)) (Ev.now _)
    · refine Ev.congr (fun k => if_neg (by omega)) ?_
      have := rcmp_l0 (trim a) (trim b) ia.wf ib.wf (by omega) (by omega) (trim a).length (Nat.le_refl _) (by rw [List.drop_length, show (trim a).length = (trim b).length from by omega, List.drop_length])
      rw [ia.val, ib.val] at this
      rwa [wsub1 (by omega)]
theorem rplus_j1 (k : Nat) (a b out : List Int) (c : Int) (i : Nat) (ha : Wf a) (hb : Wf b) (hc : 0 ≤ c ∧ c ≤ 1) (ho : out.length < 35184372088832) (hi : i ≤ 70368744177664) (h : i < a.length ∨ i < b.length) :
    sibylref01_Plus.j1 (k + 1) a b out c (i : Int) true = sibylref01_Plus.l0 k a b (out ++ [(c + rd a (i : Int) + rd b (i : Int)) % 4294967296]) ((c + rd a (i : Int) + rd b (i : Int)) / 4294967296) ((i + 1 : Nat) : Int) := by
  have hx := rd_wf' ha i
  have hy := rd_wf' hb i
  simp only [sibylref01_Plus.j1]
  rw [if_pos trivial, winc (by omega), if_pos ho, if_pos ho, if_pos ho]
  by_cases h1 : i < a.length
  · rw [if_pos (by omega), if_pos (by omega)]
    by_cases h2 : i < b.length
    · rw [if_pos (by omega)]
      generalize rd a (i : Int) = x at *
      generalize rd b (i : Int) = y at *
      rw [u64 (x := x) (by omega) (by omega), u64 (x := y) (by omega) (by omega), u64 (x := c + x) (by omega) (by omega), u64 (x := c + x + y) (by omega) (by omega), tmod_eq (by omega), tdiv_eq (by omega), u64 (x := (c + x + y) / 4294967296) (by omega) (by omega), show (c + x + y) % 4294967296 % 4294967296 = (c + x + y) % 4294967296 from by omega]
    · rw [if_neg (by omega)]
      have e : rd b (i : Int) = 0 := rd_big (by omega)
      rw [e]
      generalize rd a (i : Int) = x at *
      rw [u64 (x := x) (by omega) (by omega), u64 (x := c + x) (by omega) (by omega), tmod_eq (by omega), tdiv_eq (by omega), u64 (x := (c + x) / 4294967296) (by omega) (by omega), show (c + x) % 4294967296 % 4294967296 = (c + x) % 4294967296 from by omega, Int.add_zero]
  · rw [if_neg (by omega), if_pos (by omega), if_pos (by omega)]
    have e : rd a (i : Int) = 0 := rd_big (by omega)
    rw [e]
    generalize rd b (i : Int) = x at *
    rw [u64 (x := x) (by omega) (by omega), u64 (x := c + x) (by omega) (by omega), tmod_eq (by omega), tdiv_eq (by omega), u64 (x := (c + x) / 4294967296) (by omega) (by omega), show (c + x) % 4294967296 % 4294967296 = (c + x) % 4294967296 from by omega, Int.add_zero]
theorem rplus_l0 (a b : List Int) (i : Nat) (k : Nat) (out : List Int) (c : Int) (h : i < a.length ∨ i < b.length) : sibylref01_Plus.l0 (k + 1) a b out c (i : Int) = sibylref01_Plus.j1 k a b out c (i : Int) true := by
  simp only [sibylref01_Plus.l0]
  by_cases h1 : i < a.length
  · rw [if_pos (by omega)]
  · rw [if_neg (by omega), decide_eq_true (by omega)]
theorem rplus_l0_end (a b : List Int) (i : Nat) (k : Nat) (out : List Int) (c : Int) (h1 : a.length ≤ i) (h2 : b.length ≤ i) : sibylref01_Plus.l0 (k + 1) a b out c (i : Int) = sibylref01_Plus.j1 k a b out c (i : Int) false := by
  simp only [sibylref01_Plus.l0]
  rw [if_neg (by omega), decide_eq_false (by omega)]
theorem rplus_j1_end (a b : List Int) (i : Nat) (k : Nat) (out : List Int) (c : Int) (ho : out.length < 35184372088832) (hc : 0 ≤ c ∧ c ≤ 1) : sibylref01_Plus.j1 (k + 1) a b out c (i : Int) false = (sibylref01_Trim.f k (out ++ [c])).bind fun t => some t := by
  simp only [sibylref01_Plus.j1]
  rw [if_neg (by decide), if_pos ho, show c % 4294967296 = c from by omega]
theorem addstep {x y c : Int} (hx : 0 ≤ x ∧ x < 4294967296) (hy : 0 ≤ y ∧ y < 4294967296) (hc : 0 ≤ c ∧ c ≤ 1) : ∃ s c2, Hd ((c + x + y) % 4294967296 = s) ∧ Hd ((c + x + y) / 4294967296 = c2) ∧ (0 ≤ s ∧ s < 4294967296) ∧ (0 ≤ c2 ∧ c2 ≤ 1) ∧ s + 4294967296 * c2 = x + y + c :=
  ⟨_, _, ⟨rfl⟩, ⟨rfl⟩, by omega, by omega, by omega⟩
theorem rplus_go (a b : List Int) (ha : Wf a) (hb : Wf b) (hl : a.length < 35184372088831) (hlb : b.length < 35184372088831) : ∀ (d i : Nat) (out : List Int) (c : Int), a.length + b.length ≤ d + i → (i ≤ a.length ∨ i ≤ b.length) → out.length = i → Wf out → 0 ≤ c ∧ c ≤ 1 →
    Hd (val out + 4294967296 ^ i * c = val (a.take i) + val (b.take i)) → ∃ r, Ev (fun k => sibylref01_Plus.l0 k a b out c (i : Int)) r ∧ Is r (val a + val b)
  | d, i, out, c, hi, hi2, ho, hw, hc, hv => by
    by_cases hin : i < a.length ∨ i < b.length
    · match d with
      | 0 => omega
      | d + 1 =>
        obtain ⟨s, c2, es, ec, hs0, hc2, hs⟩ := addstep (rd_wf' ha i) (rd_wf' hb i) hc
        have hv2 : Hd (val (out ++ [s]) + 4294967296 ^ (i + 1) * c2 = val (a.take (i + 1)) + val (b.take (i + 1))) := ⟨by
          replace hv := hv.out
          rw [val_snoc, ho, pow_succ', val_take_succ' a, val_take_succ' b]
          generalize (4294967296 : Int) ^ i = P at *
          generalize rd a (i : Int) = x at *
          generalize rd b (i : Int) = y at *
          clear es ec
          grind⟩
        clear hv hs
        obtain ⟨r, hr, hI⟩ := rplus_go a b ha hb hl hlb d (i + 1) (out ++ [s]) c2 (by omega) (by omega) (by simp [ho]) (hw.append (Wf.one hs0.1 hs0.2)) hc2 hv2
        refine ⟨r, ?_, hI⟩
        clear hv2 hI
        refine Ev.step (fun k => rplus_l0 a b i k out c hin) (Ev.step (fun k => rplus_j1 k a b out c i ha hb hc (by omega) (by omega) hin) ?_)
        rw [es.out, ec.out]
        exact hr
    · have e1 : a.take i = a := List.take_of_length_le (by omega)
      have e2 : b.take i = b := List.take_of_length_le (by omega)
      refine ⟨trim (out ++ [c]), ?_, Is.of (hw.append (Wf.one hc.1 (by omega))) (by rw [val_snoc, ho]; replace hv := hv.out; rw [e1, e2] at hv; exact hv)⟩
      clear hv
      exact Ev.step (fun k => rplus_l0_end a b i k out c (by omega) (by omega)) (Ev.step (fun k => rplus_j1_end a b i k out c (by omega) hc) (Ev.bind (rtrim' (out ++ [c]) (by simp; omega)) (Ev.now _)))
theorem plus (a b : List Int) (ha : Wf a) (hb : Wf b) (hl : a.length < 35184372088831) (hlb : b.length < 35184372088831) : ∃ r, Ev (fun k => sibylref01_Plus.f k a b) r ∧ Is r (val a + val b) := by
  obtain ⟨r, hr, hI⟩ := rplus_go a b ha hb hl hlb (a.length + b.length) 0 [] 0 (by omega) (by omega) rfl Wf.nil (by omega) ⟨by simp [val]⟩
  exact ⟨r, hr, hI⟩
theorem substep {x y c : Int} (hx : 0 ≤ x ∧ x < 4294967296) (hy : 0 ≤ y ∧ y < 4294967296) (hc : 0 ≤ c ∧ c ≤ 1) : ∃ s c2, Hd ((x - c - y < 0 ∧ x - c - y + 4294967296 = s ∧ c2 = 1) ∨ (¬ x - c - y < 0 ∧ x - c - y = s ∧ c2 = 0)) ∧ (0 ≤ s ∧ s < 4294967296) ∧ (0 ≤ c2 ∧ c2 ≤ 1) ∧ s + y + c = x + 4294967296 * c2 := by
  by_cases h : x - c - y < 0
  · exact ⟨_, _, ⟨.inl ⟨h, rfl, rfl⟩⟩, by omega, by omega, by omega⟩
  · exact ⟨_, _, ⟨.inr ⟨h, rfl, rfl⟩⟩, by omega, by omega, by omega⟩
theorem rminus_step (k : Nat) (O b : List Int) (c s c2 : Int) (i : Nat) (hO : Wf O) (hb : Wf b) (hc : 0 ≤ c ∧ c ≤ 1) (hi : i < O.length) (hl : O.length ≤ 70368744177664)
    (h : Hd ((rd O (i : Int) - c - rd b (i : Int) < 0 ∧ rd O (i : Int) - c - rd b (i : Int) + 4294967296 = s ∧ c2 = 1) ∨ (¬ rd O (i : Int) - c - rd b (i : Int) < 0 ∧ rd O (i : Int) - c - rd b (i : Int) = s ∧ c2 = 0))) (hs : 0 ≤ s ∧ s < 4294967296) :
    sibylref01_Minus.l0 (k + 1) O b c (i : Int) = sibylref01_Minus.l0 k (O.set i s) b c2 ((i + 1 : Nat) : Int) := by
  have hx := rd_wf' hO i
  have hy := rd_wf' hb i
  simp only [sibylref01_Minus.l0]
  rw [winc (by omega), Int.toNat_natCast, if_pos (by omega), if_pos (by omega)]
  have ey : ¬ i < b.length → rd b (i : Int) = 0 := fun hn => rd_big (by omega)
  replace h := h.out
  generalize rd O (i : Int) = x at *
  generalize rd b (i : Int) = y at *
  rw [w64 (x := x) (by omega) (by omega), w64 (x := y) (by omega) (by omega), w64 (x := x - c) (by omega) (by omega), w64 (x := x - c - y) (by omega) (by omega)]
  by_cases h2 : i < b.length
  · rw [if_pos (by omega)]
    rcases h with ⟨h3, h4, h5⟩ | ⟨h3, h4, h5⟩
    · rw [if_pos h3, w64 (x := x - c - y + 4294967296) (by omega) (by omega), h4, h5, show s % 4294967296 = s from by omega]
    · rw [if_neg h3, h4, h5, show s % 4294967296 = s from by omega]
  · rw [if_neg (by omega)]
    have e := ey h2
    subst e
    rw [Int.sub_zero] at h
    rcases h with ⟨h3, h4, h5⟩ | ⟨h3, h4, h5⟩
    · rw [if_pos h3, w64 (x := x - c + 4294967296) (by omega) (by omega), h4, h5, show s % 4294967296 = s from by omega]
    · rw [if_neg h3, h4, h5, show s % 4294967296 = s from by omega]
theorem rminus_end (k : Nat) (O b : List Int) (c : Int) : sibylref01_Minus.l0 (k + 1) O b c (O.length : Int) = (sibylref01_Trim.f k O).bind fun t => some t := by
  simp only [sibylref01_Minus.l0]
  rw [if_neg (by omega)]
theorem rminus_l0 (a b : List Int) (ha : Wf a) (hb : Wf b) (hl : a.length ≤ 35184372088832) (hba : b.length ≤ a.length) (hle : val b ≤ val a) : ∀ (d i : Nat) (O : List Int) (c : Int), d + i = a.length → O.length = a.length → Wf O → 0 ≤ c ∧ c ≤ 1 → O.drop i = a.drop i →
    Hd (val (O.take i) + val (b.take i) = val (a.take i) + 4294967296 ^ i * c) → ∃ r, Ev (fun k => sibylref01_Minus.l0 k O b c (i : Int)) r ∧ Is r (val a - val b)
  | 0, i, O, c, hi, ho, hw, hc, hd, hv => by
    have e1 : a.take i = a := List.take_of_length_le (by omega)
    have e2 : b.take i = b := List.take_of_length_le (by omega)
    have e3 : O.take i = O := List.take_of_length_le (by omega)
    have h2 : c = 0 := by
      have h1 := val_lt hw
      replace hv := hv.out
      rw [e1, e2, e3] at hv
      rcases Int.lt_or_le 0 c with h | h
      · have : c = 1 := by omega
        subst this
        rw [ho, show a.length = i from by omega] at h1
        rw [Int.mul_one] at hv
        generalize (4294967296 : Int) ^ i = P at *
        omega
      · omega
    subst h2
    refine ⟨trim O, ?_, Is.of hw (by replace hv := hv.out; rw [e1, e2, e3, Int.mul_zero] at hv; omega)⟩
    clear hv
    rw [show i = O.length from by omega]
    exact Ev.step (fun k => rminus_end k O b 0) (Ev.bind (rtrim' O (by omega)) (Ev.now _))
  | d + 1, i, O, c, hi, ho, hw, hc, hd, hv => by
    obtain ⟨s, c2, h, hs0, hc2, hs⟩ := substep (rd_wf' hw i) (rd_wf' hb i) hc
    have hrd : rd O (i : Int) = rd a (i : Int) := by
      have h1 := rd_drop O i 0
      have h2 := rd_drop a i 0
      rw [hd] at h1
      rw [h1] at h2
      simpa using h2
    have hv2 : Hd (val ((O.set i s).take (i + 1)) + val (b.take (i + 1)) = val (a.take (i + 1)) + 4294967296 ^ (i + 1) * c2) := ⟨by
      replace hv := hv.out
      rw [val_take_set (by omega), pow_succ', val_take_succ' a, val_take_succ' b, ← hrd]
      generalize (4294967296 : Int) ^ i = P at *
      generalize rd O (i : Int) = x at *
      generalize rd b (i : Int) = y at *
      clear h hrd
      grind⟩
    clear hv hs hrd
    obtain ⟨r, hr, hI⟩ := rminus_l0 a b ha hb hl hba hle d (i + 1) (O.set i s) c2 (by omega) (by simp [ho]) (hw.set _ hs0.1 hs0.2) hc2
      (by
        rw [drop_set_lt (by omega)]
        have := congrArg (List.drop 1) hd
        rwa [List.drop_drop, List.drop_drop] at this) hv2
    exact ⟨r, Ev.step (fun k => rminus_step k O b c s c2 i hw hb hc (by omega) (by omega) h hs0) hr, hI⟩
theorem minus (a b : List Int) (ha : Wf a) (hb : Wf b) (hl : a.length ≤ 35184372088832) (hlb : b.length ≤ 35184372088832) (hle : val b ≤ val a) : ∃ r, Ev (fun k => sibylref01_Minus.f k a b) r ∧ Is r (val a - val b) := by
  have ia := Is.of ha rfl
  have ib := Is.of hb rfl
  have la := trim_len a
  have lb := trim_len b
  have hba : (trim b).length ≤ (trim a).length := by
    rcases Nat.lt_or_ge (trim a).length (trim b).length with h | h
    · have := Is.lt_of_len ia ib h
      omega
    · exact h
  obtain ⟨r, hr, hI⟩ := rminus_l0 (trim a) (trim b) ia.wf ib.wf (by omega) hba (by rw [ia.val, ib.val]; exact hle) (trim a).length 0 (trim a) 0 (by omega) rfl ia.wf (by omega) rfl ⟨by simp [val]⟩
  rw [ia.val, ib.val] at hI
  refine ⟨r, ?_, hI⟩
  unfold sibylref01_Minus.f
  exact Ev.bind (rtrim' a (by omega)) (Ev.bind (rtrim' b (by omega)) hr)
end Go.Proofs.Ytgffficaoioljaa.PlN
end
section
namespace Go.Proofs.Ytgffficaoioljaa.PlN
open Go.RowKit Go.Proofs.Ytgffficaoioljaa.P Go.Proofs.Ytgffficaoioljaa.Pl Go.Proofs.Ytgffficaoioljaa.PlA Go.Proofs.YtgffficaoioljaaW.PrintWords Go.Proofs.YtgffficaoioljaaW.PrintLast Go.Proofs.YtgffficaoioljaaW.PrintMore
set_option linter.unusedVariables false
theorem fit_len (l : List Int) : (fitOf l).1.length ≤ 16 := by
  unfold fitOf
  split
  · simp
  · simp only; omega
theorem fitted {g : Nat → Option (List Int)} {r : List Int} (h : Ev g r) : Ev (fun k => (g k).bind fun t => (limb_fit.f t).bind fun bt => some (bt.1, bt.2)) (fitOf r) := by
  refine Ev.bind h ?_
  refine Ev.congr (fun k => ?_) (Ev.now _)
  rw [fit]; rfl
theorem limbAdd (a b : List Int) (ha : Wf a) (hb : Wf b) (hl : a.length < 35184372088831) (hlb : b.length < 35184372088831) : ∃ r, Ev (fun k => limb_Add.f k a b) (fitOf r) ∧ Is r (val a + val b) := by
  obtain ⟨r, hr, hI⟩ := add a b ha hb hl hlb
  exact ⟨r, fitted hr, hI⟩
theorem sgn_neg {x y : Int} : sgn x y < 0 ↔ x < y := by
  unfold sgn
  split
  · simp [*]
  · split <;> simp [*]
theorem limbSub_lt (a b : List Int) (ha : Wf a) (hb : Wf b) (hl : a.length ≤ 9223372036854775806) (hlb : b.length ≤ 9223372036854775806) (h : val a < val b) : Ev (fun k => limb_Sub.f k a b) ([], 11) := by
  unfold limb_Sub.f
  refine Ev.bind (cmp a b ha hb hl hlb) ?_
  exact Ev.congr (fun k => if_pos (sgn_neg.2 h)) (Ev.now _)
theorem limbSub (a b : List Int) (ha : Wf a) (hb : Wf b) (hl : a.length < 35184372088831) (hlb : b.length < 35184372088831) (h : val b ≤ val a) : ∃ r, Ev (fun k => limb_Sub.f k a b) (fitOf r) ∧ Is r (val a - val b) := by
  obtain ⟨r, hr, hI⟩ := sub a b ha hb hl hlb h
  refine ⟨r, ?_, hI⟩
  unfold limb_Sub.f
  refine Ev.bind (cmp a b ha hb (by omega) (by omega)) ?_
  exact Ev.congr (fun k => if_neg (fun hn => absurd (sgn_neg.1 hn) (by omega))) (fitted hr)
theorem rfitI {r : List Int} {v : Int} (h : Is r v) (hl : r.length ≤ 35184372088832) : Ev (fun k => sibylref01_Fit.f k r) (fitOf r) := by
  have hf := rfit r hl
  rwa [h.nm] at hf
theorem same_fit (l : List Int) : Ev (fun k => sibylref01_Same.f k (fitOf l).1 (fitOf l).1) true := rsame_refl _ (Nat.le_trans (fit_len l) (by decide))
theorem pow2_le {n : Nat} : (2 : Int) * 4294967296 ^ n ≤ 4294967296 ^ (n + 1) := by
  have := pow_pos' n
  rw [pow_succ']
  omega
theorem ev_uniq {α : Type} {g : Nat → Option α} {a b : α} (h : Ev g a) (k : Ev g b) : a = b := by
  obtain ⟨m, hm⟩ := h
  obtain ⟨n, hn⟩ := k
  have h1 := hm (m + n) (by omega)
  have h2 := hn (m + n) (by omega)
  rw [h1] at h2
  exact Option.some.inj h2
theorem add_len {a b r : List Int} {n : Nat} (ha : Wf a) (hb : Wf b) (hl : a.length ≤ n) (hlb : b.length ≤ n) (h : Is r (val a + val b)) : r.length ≤ n + 1 := by
  refine h.len ?_
  have h1 := val_lt ha
  have h2 := val_lt hb
  have h3 := pow_le hl
  have h4 := pow_le hlb
  have h5 := pow2_le (n := n)
  omega
theorem Is.len_le {r l : List Int} {v : Int} (h : Is r v) (hw : Wf l) (hv : v ≤ val l) : r.length ≤ l.length := h.len (Int.lt_of_le_of_lt hv (val_lt hw))
end Go.Proofs.Ytgffficaoioljaa.PlN
end
