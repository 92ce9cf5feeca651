import Derived.Test.YtgffficaoioljaaCc9
import Derived.Test.YtgffficaoioljaaCc10
import Derived.Test.YtgffficaoioljaaCc11
section
namespace Go.Proofs.Ytgffficaoioljaa.PlN
open Go.RowKit Go.Proofs.Ytgffficaoioljaa.P Go.Proofs.Ytgffficaoioljaa.Pl Go.Proofs.Ytgffficaoioljaa.PlA Go.Proofs.YtgffficaoioljaaW.PrintWords Go.Proofs.YtgffficaoioljaaW.PrintLast Go.Proofs.YtgffficaoioljaaW.PrintMore
theorem trim_take_zero {l : List Int} {n : Nat} (h : n < l.length) (h0 : rd l (n : Int) = 0) : trim (l.take (n + 1)) = trim (l.take n) := by
  rw [take_succ h, h0, trim_zero]
theorem trim_take_ne {l : List Int} {n : Nat} (h : n < l.length) (h0 : rd l (n : Int) ≠ 0) : trim (l.take (n + 1)) = l.take (n + 1) := by
  rw [take_succ h, trim_snoc _ _ h0]
theorem cut_l0 (l : List Int) (hl : l.length ≤ 9223372036854775807) : ∀ n : Nat, n ≤ l.length → Ev (fun k => nats_cut.l0 k l (n : Int)) (trim (l.take n))
  | 0, _ => by
    refine Ev.step (f := fun _ => some []) (fun k => ?_) (Ev.now _)
    simp only [nats_cut.l0]
    rw [if_neg (by omega), if_pos (by omega), if_pos (by omega)]
    rfl
  | n + 1, h => by
    have hw : wrap64 (((n + 1 : Nat) : Int) - 1) = (n : Int) := by rw [w64 (by omega) (by omega)]; omega
    by_cases h0 : rd l (n : Int) = 0
    · rw [trim_take_zero (by omega) h0]
      refine Ev.step (fun k => ?_) (cut_l0 l hl n (by omega))
      simp only [nats_cut.l0]
      rw [hw, if_pos (by omega), if_pos (by omega), if_pos (by omega), if_pos h0]
    · rw [trim_take_ne (by omega) h0]
      refine Ev.step (f := fun _ => some (l.take (n + 1))) (fun k => ?_) (Ev.now _)
      simp only [nats_cut.l0]
      rw [hw, if_pos (by omega), if_pos (by omega), if_pos (by omega), if_neg h0, if_pos (by omega), if_pos (by omega), Int.toNat_natCast]
theorem cut (l : List Int) (hl : l.length ≤ 9223372036854775807) : Ev (fun k => nats_cut.f k l) (trim l) := by
  have := cut_l0 l hl l.length (Nat.le_refl _)
  rwa [List.take_length] at this
theorem cuto_l0 (l : List Int) (hl : l.length ≤ 9223372036854775807) : ∀ n : Nat, n ≤ l.length → Ev (fun k => nats_cuto.l0 k l (n : Int)) (trim (l.take n))
  | 0, _ => by
    refine Ev.step (f := fun _ => some []) (fun k => ?_) (Ev.now _)
    simp only [nats_cuto.l0]
    rw [if_neg (by omega), if_pos (by omega), if_pos (by omega)]
    rfl
  | n + 1, h => by
    have hw : wrap64 (((n + 1 : Nat) : Int) - 1) = (n : Int) := by rw [w64 (by omega) (by omega)]; omega
    by_cases h0 : rd l (n : Int) = 0
    · rw [trim_take_zero (by omega) h0]
      refine Ev.step (fun k => ?_) (cuto_l0 l hl n (by omega))
      simp only [nats_cuto.l0]
      rw [hw, if_pos (by omega), if_pos (by omega), if_pos (by omega), if_pos h0]
    · rw [trim_take_ne (by omega) h0]
      refine Ev.step (f := fun _ => some (l.take (n + 1))) (fun k => ?_) (Ev.now _)
      simp only [nats_cuto.l0]
      rw [hw, if_pos (by omega), if_pos (by omega), if_pos (by omega), if_neg h0, if_pos (by omega), if_pos (by omega), Int.toNat_natCast]
theorem cuto (l : List Int) (hl : l.length ≤ 9223372036854775807) : Ev (fun k => nats_cuto.f k l) (trim l) := by
  have := cuto_l0 l hl l.length (Nat.le_refl _)
  rwa [List.take_length] at this
theorem trim_l0 (l : List Int) (hl : l.length < 35184372088832) : ∀ n : Nat, n ≤ l.length → Ev (fun k => nats_Trim.l0 k l (n : Int)) (trim (l.take n))
  | 0, _ => by
    refine Ev.step (f := fun _ => some []) (fun k => ?_) (Ev.now _)
    simp only [nats_Trim.l0]
    rw [if_neg (by omega), if_pos (by omega), if_pos (by omega), if_pos (by simp)]
    rfl
  | n + 1, h => by
    have hw : wrap64 (((n + 1 : Nat) : Int) - 1) = (n : Int) := by rw [w64 (by omega) (by omega)]; omega
    by_cases h0 : rd l (n : Int) = 0
    · rw [trim_take_zero (by omega) h0]
      refine Ev.step (fun k => ?_) (trim_l0 l hl n (by omega))
      simp only [nats_Trim.l0]
      rw [hw, if_pos (by omega), if_pos (by omega), if_pos (by omega), if_pos h0]
    · rw [trim_take_ne (by omega) h0]
      refine Ev.step (f := fun _ => some (l.take (n + 1))) (fun k => ?_) (Ev.now _)
      simp only [nats_Trim.l0]
      rw [hw, if_pos (by omega), if_pos (by omega), if_pos (by omega), if_neg h0, if_pos (by omega), if_pos (by omega), Int.toNat_natCast, if_pos (by rw [List.length_take]; simp; omega), List.nil_append]
theorem natsTrim (l : List Int) (hl : l.length < 35184372088832) : Ev (fun k => nats_Trim.f k l) (trim l) := by
  have := trim_l0 l hl l.length (Nat.le_refl _)
  rwa [List.take_length] at this
def sgn (x y : Int) : Int := if x < y then -1 else if y < x then 1 else 0
theorem cmp_l0 (a b : List Int) (ha : Wf a) (hb : Wf b) (hla : a.length ≤ 9223372036854775807) (he : a.length = b.length) : ∀ n : Nat, n ≤ a.length → val (a.drop n) = val (b.drop n) → Ev (fun k => nats_Cmp.l0 k a b ((n : Int) - 1)) (sgn (val a) (val b))
  | 0, _, hd => by
    refine Ev.step (f := fun _ => some 0) (fun k => ?_) ?_
    · simp only [nats_Cmp.l0]
      rw [if_neg (by omega)]
    · rw [List.drop_zero, List.drop_zero] at hd
      have : sgn (val a) (val b) = 0 := by unfold sgn; rw [hd, if_neg (by omega), if_neg (by omega)]
      rw [this]
      exact Ev.now _
  | n + 1, h, hd => by
    have e1 : ((n + 1 : Nat) : Int) - 1 = (n : Int) := by omega
    have hw : wrap64 ((n : Int) - 1) = (n : Int) - 1 := w64 (by omega) (by omega)
    rw [e1]
    by_cases h0 : rd a (n : Int) = rd b (n : Int)
    · refine Ev.step (fun k => ?_) (cmp_l0 a b ha hb hla he n (by omega) ?_)
      · simp only [nats_Cmp.l0]
        rw [hw, if_pos (by omega), if_pos (by omega), if_pos (by omega), if_pos (by omega), if_pos h0]
      · rw [val_drop_rd (l := a) (by omega), val_drop_rd (l := b) (i := n) (by omega), h0, hd]
    · have ra := rd_wf ha (i := n) (by omega)
      have rb := rd_wf hb (i := n) (by omega)
      have va := val_cut a n (by omega)
      have vb := val_cut b n (by omega)
      rw [val_drop_rd (by omega)] at va vb
      have la := val_lt (ha.take n)
      have lb := val_lt (hb.take n)
      have na := val_nonneg (ha.take n)
      have nb := val_nonneg (hb.take n)
      rw [List.length_take, Nat.min_eq_left (by omega)] at la lb
      have hp := pow_pos' n
      refine Ev.step (f := fun _ => some (if rd a (n : Int) < rd b (n : Int) then (-1) else 1)) (fun k => ?_) ?_
      · simp only [nats_Cmp.l0]
        rw [if_pos (by omega), if_pos (by omega), if_pos (by omega), if_pos (by omega), if_neg h0]
        split <;> rfl
      · have hs : sgn (val a) (val b) = (if rd a (n : Int) < rd b (n : Int) then (-1) else 1) := by
          rw [va, vb, hd]
          generalize val (b.drop (n + 1)) = D at *
          generalize (4294967296 : Int) ^ n = P at *
          generalize rd a (n : Int) = x at *
          generalize rd b (n : Int) = y at *
          unfold sgn
          by_cases hxy : x < y
          · have : P * (x + 1) ≤ P * y := Int.mul_le_mul_of_nonneg_left (by omega) (Int.le_of_lt hp)
            rw [if_pos hxy, if_pos (by grind)]
          · have : P * (y + 1) ≤ P * x := Int.mul_le_mul_of_nonneg_left (by omega) (Int.le_of_lt hp)
            rw [if_neg hxy, if_neg (by grind), if_pos (by grind)]
        rw [hs]
        exact Ev.now _
theorem Is.lt_of_len {a b : List Int} {x y : Int} (ha : Is a x) (hb : Is b y) (h : a.length < b.length) : x < y := by
  have h1 := ha.lt
  have h2 := hb.ge (by intro e; rw [e] at h; simp at h)
  have h3 := pow_le (m := a.length) (n := b.length - 1) (by omega)
  omega
theorem cmp (a b : List Int) (ha : Wf a) (hb : Wf b) (hla : a.length ≤ 9223372036854775806) (hlb : b.length ≤ 9223372036854775806) : Ev (fun k => nats_Cmp.f k a b) (sgn (val a) (val b)) := by
  have ia := Is.of ha rfl
  have ib := Is.of hb rfl
  have la := trim_len a
  have lb := trim_len b
  unfold nats_Cmp.f
  refine Ev.bind (cut a (by omega)) (Ev.bind (cut b (by omega)) ?_)
  by_cases he : (trim a).length = (trim b).length
  · refine Ev.congr (f := fun k => nats_Cmp.l0 k (trim a) (trim b) (((trim a).length : Int) - 1)) (fun k => ?_) ?_
    · rw [if_pos (by omega), w64 (by omega) (by omega)]
    · have := cmp_l0 (trim a) (trim b) ia.wf ib.wf (by omega) he (trim a).length (Nat.le_refl _) (by rw [List.drop_length, he, List.drop_length])
      rwa [ia.val, ib.val] at this
  · refine Ev.congr (f := fun k => some (if (trim a).length < (trim b).length then (-1) else 1)) (fun k => ?_) ?_
    · rw [if_neg (by omega)]
      by_cases h : (trim a).length < (trim b).length
      · rw [if_pos (by omega), if_pos h]
      · rw [if_neg (by omega), if_neg h]
    · have hs : sgn (val a) (val b) = (if (trim a).length < (trim b).length then (-1) else 1) := by
        unfold sgn
        by_cases h : (trim a).length < (trim b).length
        · have := Is.lt_of_len ia ib h
          rw [if_pos h, if_pos this]
        · have := Is.lt_of_len ib ia (by omega)
          rw [if_neg h, if_neg (by omega), if_pos this]
      rw [hs]
      exact Ev.now _
end Go.Proofs.Ytgffficaoioljaa.PlN
end
section
namespace Go.Proofs.Ytgffficaoioljaa.PlN
open Go.RowKit Go.Proofs.Ytgffficaoioljaa.P Go.Proofs.Ytgffficaoioljaa.Pl Go.Proofs.Ytgffficaoioljaa.PlA Go.Proofs.YtgffficaoioljaaW.PrintWords Go.Proofs.YtgffficaoioljaaW.PrintLast Go.Proofs.YtgffficaoioljaaW.PrintMore
theorem val_take_succ' (l : List Int) (i : Nat) : val (l.take (i + 1)) = val (l.take i) + 4294967296 ^ i * rd l (i : Int) := by
  rcases Nat.lt_or_ge i l.length with h | h
  · exact val_take_succ h
  · rw [val_take_big h, val_take_big (Nat.le_succ_of_le h), rd_big h]; simp
theorem rd_wf' {l : List Int} (hw : Wf l) (i : Nat) : 0 ≤ rd l (i : Int) ∧ rd l (i : Int) < 4294967296 := by
  rcases Nat.lt_or_ge i l.length with h | h
  · exact rd_wf hw h
  · rw [rd_big h]; omega
theorem add32 {x y c : Int} (hx : 0 ≤ x ∧ x < 4294967296) (hy : 0 ≤ y ∧ y < 4294967296) (hc : 0 ≤ c ∧ c ≤ 1) : bits_Add32.f x y c = some ((x + y + c) % 4294967296, (x + y + c) / 4294967296) := by
  unfold bits_Add32.f
  rw [u64 (x := x) (by omega) (by omega), u64 (x := y) (by omega) (by omega), u64 (x := c) (by omega) (by omega), u64 (x := x + y) (by omega) (by omega), u64 (x := x + y + c) (by omega) (by omega)]
  rw [show (x + y + c) / 4294967296 % 4294967296 = (x + y + c) / 4294967296 from by omega]
theorem pow_succ' (n : Nat) : (4294967296 : Int) ^ (n + 1) = 4294967296 ^ n * 4294967296 := Int.pow_succ _ _
theorem add32' {x y c : Int} (hx : 0 ≤ x ∧ x < 4294967296) (hy : 0 ≤ y ∧ y < 4294967296) (hc : 0 ≤ c ∧ c ≤ 1) : ∃ s c2, bits_Add32.f x y c = some (s, c2) ∧ (0 ≤ s ∧ s < 4294967296) ∧ (0 ≤ c2 ∧ c2 ≤ 1) ∧ s + 4294967296 * c2 = x + y + c :=
  ⟨_, _, add32 hx hy hc, by omega, by omega, by omega⟩
theorem add_l0 (a b : List Int) (ha : Wf a) (hb : Wf b) (hl : a.length < 35184372088831) : ∀ (d i : Nat) (out : List Int) (c : Int), d + i = a.length → out.length = i → Wf out → 0 ≤ c ∧ c ≤ 1 → b.length ≤ a.length →
    Hd (val out + 4294967296 ^ i * c = val (a.take i) + val (b.take i)) → ∃ r, Ev (fun k => nats_Add.l0 k a b out c (a.length : Int) (i : Int)) r ∧ Is r (val a + val b)
  | 0, i, out, c, hi, ho, hw, hc, hab, hv => by
    have e1 : a.take i = a := List.take_of_length_le (by omega)
    have e2 : b.take i = b := List.take_of_length_le (by omega)
    refine ⟨trim (out ++ [c]), ?_, Is.of (hw.append (Wf.one hc.1 (by omega))) (by rw [val_snoc, ho]; replace hv := hv.out; rw [e1, e2] at hv; exact hv)⟩
    clear hv
    refine Ev.step (f := fun k => (nats_cuto.f k (out ++ [c])).bind fun t => some t) (fun k => ?_) (Ev.bind (cuto _ (by simp; omega)) (Ev.now _))
    simp only [nats_Add.l0]
    rw [if_neg (by omega), if_pos (by omega)]
  | d + 1, i, out, c, hi, ho, hw, hc, hab, hv => by
    obtain ⟨s, c2, h32, hs0, hc2, hs⟩ := add32' (rd_wf' ha i) (rd_wf' hb i) hc
    have hv2 : Hd (val (out ++ [s]) + 4294967296 ^ (i + 1) * c2 = val (a.take (i + 1)) + val (b.take (i + 1))) := ⟨by
      replace hv := hv.out
      rw [val_snoc, ho, pow_succ', val_take_succ' a, val_take_succ' b]
      generalize (4294967296 : Int) ^ i = P at *
      generalize rd a (i : Int) = x at *
      generalize rd b (i : Int) = y at *
      grind⟩
    clear hv hs
    obtain ⟨r, hr, hI⟩ := add_l0 a b ha hb hl d (i + 1) (out ++ [s]) c2 (by omega) (by simp [ho]) (hw.append (Wf.one hs0.1 hs0.2)) hc2 hab hv2
    refine ⟨r, ?_, hI⟩
    have hw1 : wrap64 ((i : Int) + 1) = ((i + 1 : Nat) : Int) := by rw [w64 (by omega) (by omega)]; omega
    clear hv2 hI ha hb hw
    refine Ev.step (fun k => ?_) hr
    simp only [nats_Add.l0]
    rw [if_pos (by omega)]
    by_cases hib : i < b.length
    · rw [if_pos (by omega), if_pos (by omega), if_pos (by omega), h32]
      simp only [Option.bind_some]
      rw [if_pos (by omega), hw1]
    · have hy0 : rd b (i : Int) = 0 := rd_big (by omega)
      rw [if_neg (by omega), if_pos (by omega), if_pos (by omega)]
      rw [hy0] at h32
      rw [h32]
      simp only [Option.bind_some]
      rw [if_pos (by omega), hw1]
theorem add_j0 (a b : List Int) (ha : Wf a) (hb : Wf b) (hl : a.length < 35184372088831) (hab : b.length ≤ a.length) : ∃ r, Ev (fun k => nats_Add.j0 k a b) r ∧ Is r (val a + val b) := by
  obtain ⟨r, hr, hI⟩ := add_l0 a b ha hb hl a.length 0 [] 0 (by omega) rfl Wf.nil (by omega) hab ⟨by simp [val]⟩
  refine ⟨r, ?_, hI⟩
  refine Ev.step (fun k => ?_) hr
  simp only [nats_Add.j0]
  rw [w64 (by omega) (by omega), if_pos (by omega), if_pos (by omega)]
  rfl
theorem add (a b : List Int) (ha : Wf a) (hb : Wf b) (hl : a.length < 35184372088831) (hlb : b.length < 35184372088831) : ∃ r, Ev (fun k => nats_Add.f k a b) r ∧ Is r (val a + val b) := by
  unfold nats_Add.f
  by_cases h : (a.length : Int) < (b.length : Int)
  · obtain ⟨r, hr, hI⟩ := add_j0 b a hb ha hlb (by omega)
    exact ⟨r, Ev.congr (fun k => if_pos h) hr, by rw [Int.add_comm]; exact hI⟩
  · obtain ⟨r, hr, hI⟩ := add_j0 a b ha hb hl (by omega)
    exact ⟨r, Ev.congr (fun k => if_neg h) hr, hI⟩
end Go.Proofs.Ytgffficaoioljaa.PlN
end
section
namespace Go.Proofs.Ytgffficaoioljaa.PlN
open Go.RowKit Go.Proofs.Ytgffficaoioljaa.P Go.Proofs.Ytgffficaoioljaa.Pl Go.Proofs.Ytgffficaoioljaa.PlA Go.Proofs.YtgffficaoioljaaW.PrintWords Go.Proofs.YtgffficaoioljaaW.PrintLast Go.Proofs.YtgffficaoioljaaW.PrintMore
theorem winc {i : Nat} (h : i ≤ 140737488355328) : wrap64 ((i : Int) + 1) = ((i + 1 : Nat) : Int) := by rw [w64 (by omega) (by omega)]; omega
end Go.Proofs.Ytgffficaoioljaa.PlN
end
section
namespace Go.Proofs.Ytgffficaoioljaa.PlN
open Go.RowKit Go.Proofs.Ytgffficaoioljaa.P Go.Proofs.Ytgffficaoioljaa.Pl Go.Proofs.Ytgffficaoioljaa.PlA Go.Proofs.YtgffficaoioljaaW.PrintWords Go.Proofs.YtgffficaoioljaaW.PrintLast Go.Proofs.YtgffficaoioljaaW.PrintMore
set_option linter.unusedVariables false
theorem wdec {i : Nat} (h : i + 1 ≤ 140737488355328) : wrap64 (((i + 1 : Nat) : Int) - 1) = (i : Int) := by rw [w64 (by omega) (by omega)]; omega
theorem own (l : List Int) (h : l.length < 35184372088832) : sibyllaw01_own.f l = some l := by
  unfold sibyllaw01_own.f
  simp only [Option.bind_some, List.length_nil, List.nil_append]
  rw [if_pos (by omega)]
theorem rtrim_l1_step (k : Nat) (l out : List Int) (n i : Nat) (h : i < n) (hn : n ≤ l.length) (ho : out.length < 35184372088832) (hi : i ≤ 70368744177664) :
    sibylref01_Trim.l1 (k + 1) l (n : Int) out (i : Int) = sibylref01_Trim.l1 k l (n : Int) (out ++ [rd l (i : Int)]) ((i + 1 : Nat) : Int) := by
  simp only [sibylref01_Trim.l1]
  rw [if_pos (by omega), if_pos (by omega), if_pos (by omega), if_pos ho, winc (by omega)]
theorem rtrim_l1 (l : List Int) (n : Nat) (hn : n ≤ l.length) (hn2 : n ≤ 35184372088832) : ∀ (d i : Nat), d + i = n → Ev (fun k => sibylref01_Trim.l1 k l (n : Int) (l.take i) (i : Int)) (l.take n)
  | 0, i, hi => by
    have : i = n := by omega
    subst this
    refine Ev.step (f := fun _ => some (l.take i)) (fun k => ?_) (Ev.now _)
    simp only [sibylref01_Trim.l1]
    rw [if_neg (by omega)]
  | d + 1, i, hi => by
    have ih := rtrim_l1 l n hn hn2 d (i + 1) (by omega)
    rw [take_succ (show i < l.length by omega)] at ih
    exact Ev.step (fun k => rtrim_l1_step k l (l.take i) n i (by omega) hn (by rw [List.length_take]; omega) (by omega)) ih
theorem rtrim_l0_zero (k : Nat) (l : List Int) (n : Nat) (h : n < l.length) (hl : l.length ≤ 70368744177664) (h0 : rd l (n : Int) = 0) : sibylref01_Trim.l0 (k + 1) l ((n + 1 : Nat) : Int) = sibylref01_Trim.l0 k l (n : Int) := by
  simp only [sibylref01_Trim.l0]
  rw [wdec (by omega), if_pos (by omega), if_pos (by omega), if_pos (by omega), if_pos h0]
theorem rtrim_l0_ne (k : Nat) (l : List Int) (n : Nat) (h : n < l.length) (hl : l.length ≤ 70368744177664) (h0 : rd l (n : Int) ≠ 0) : sibylref01_Trim.l0 (k + 1) l ((n + 1 : Nat) : Int) = sibylref01_Trim.j1 k l ((n + 1 : Nat) : Int) := by
  simp only [sibylref01_Trim.l0]
  rw [wdec (by omega), if_pos (by omega), if_pos (by omega), if_pos (by omega), if_neg h0]
theorem rtrim_j1 (l : List Int) (n : Nat) (hn : n ≤ l.length) (hn2 : n ≤ 35184372088832) : Ev (fun k => sibylref01_Trim.j1 k l (n : Int)) (l.take n) := by
  have h := rtrim_l1 l n hn hn2 n 0 (by omega)
  refine Ev.step (fun k => ?_) h
  simp only [sibylref01_Trim.j1]
  rfl
theorem rtrim_l0 (l : List Int) (hl : l.length ≤ 70368744177664) : ∀ n : Nat, n ≤ l.length → (trim (l.take n)).length ≤ 35184372088832 → Ev (fun k => sibylref01_Trim.l0 k l (n : Int)) (trim (l.take n))
  | 0, _, _ => by
    have h := rtrim_j1 l 0 (Nat.zero_le _) (by omega)
    refine Ev.step (fun k => ?_) h
    simp only [sibylref01_Trim.l0]
    rw [if_neg (by omega)]
  | n + 1, h, hn2 => by
    by_cases h0 : rd l (n : Int) = 0
    · rw [trim_take_zero (by omega) h0] at hn2 ⊢
      exact Ev.step (fun k => rtrim_l0_zero k l n (by omega) hl h0) (rtrim_l0 l hl n (by omega) hn2)
    · rw [trim_take_ne (by omega) h0] at hn2 ⊢
      rw [List.length_take] at hn2
      exact Ev.step (fun k => rtrim_l0_ne k l n (by omega) hl h0) (rtrim_j1 l (n + 1) h (by omega))
theorem rtrim (l : List Int) (hl : l.length ≤ 70368744177664) (ht : (trim l).length ≤ 35184372088832) : Ev (fun k => sibylref01_Trim.f k l) (trim l) := by
  have := rtrim_l0 l hl l.length (Nat.le_refl _) (by rw [List.take_length]; exact ht)
  rwa [List.take_length] at this
theorem rtrim' (l : List Int) (hl : l.length ≤ 35184372088832) : Ev (fun k => sibylref01_Trim.f k l) (trim l) :=
  rtrim l (by omega) (Nat.le_trans (trim_len l) hl)
def fitOf (l : List Int) : List Int × Int := if (l.length : Int) > 16 then ([], 4) else (l, 0)
theorem rfit (l : List Int) (hl : l.length ≤ 35184372088832) : Ev (fun k => sibylref01_Fit.f k l) (fitOf (trim l)) := by
  unfold sibylref01_Fit.f
  refine Ev.bind (rtrim' l hl) ?_
  unfold fitOf
  split <;> exact Ev.now _
theorem fit (l : List Int) : limb_fit.f l = some (fitOf l) := by
  unfold limb_fit.f fitOf
  split <;> rfl
theorem rsame_step (k : Nat) (a b : List Int) (i : Nat) (h1 : i < a.length) (h2 : i < b.length) (h3 : a.length ≤ 70368744177664) (h : rd a (i : Int) = rd b (i : Int)) : sibylref01_Same.l0 (k + 1) a b (i : Int) = sibylref01_Same.l0 k a b ((i + 1 : Nat) : Int) := by
  simp only [sibylref01_Same.l0]
  rw [if_pos (by omega), if_pos (by omega), if_pos (by omega), if_pos h, winc (by omega)]
theorem rsame_l0 (a : List Int) (hl : a.length ≤ 70368744177664) : ∀ (d i : Nat), d + i = a.length → Ev (fun k => sibylref01_Same.l0 k a a (i : Int)) true
  | 0, i, hi => by
    refine Ev.step (f := fun _ => some true) (fun k => ?_) (Ev.now _)
    simp only [sibylref01_Same.l0]
    rw [if_neg (by omega)]
  | d + 1, i, hi => Ev.step (fun k => rsame_step k a a i (by omega) (by omega) hl rfl) (rsame_l0 a hl d (i + 1) (by omega))
theorem rsame_refl (a : List Int) (hl : a.length ≤ 70368744177664) : Ev (fun k => sibylref01_Same.f k a a) true := by
  unfold sibylref01_Same.f
  refine Ev.congr (fun k => if_pos rfl) (rsame_l0 a hl a.length 0 (by omega))
end Go.Proofs.Ytgffficaoioljaa.PlN
end
section
namespace Go.Proofs.Ytgffficaoioljaa.PlN
open Go.RowKit Go.Proofs.Ytgffficaoioljaa.P Go.Proofs.Ytgffficaoioljaa.Pl Go.Proofs.Ytgffficaoioljaa.PlA Go.Proofs.YtgffficaoioljaaW.PrintWords Go.Proofs.YtgffficaoioljaaW.PrintLast Go.Proofs.YtgffficaoioljaaW.PrintMore
set_option linter.unusedVariables false
theorem wsub1 {i : Nat} (h : i ≤ 140737488355328) : wrap64 ((i : Int) - 1) = (i : Int) - 1 := w64 (by omega) (by omega)
theorem rcmp_same (k : Nat) (a b : List Int) (n : Nat) (h1 : n < a.length) (h2 : n < b.length) (h3 : n ≤ 70368744177664) (h : rd a (n : Int) = rd b (n : Int)) : sibylref01_Cmp.l0 (k + 1) a b (n : Int) = sibylref01_Cmp.l0 k a b ((n : Int) - 1) := by
  simp only [sibylref01_Cmp.l0]
  rw [wsub1 (by omega), if_pos (by omega), if_pos (by omega), if_pos (by omega), if_pos (by omega), h, if_neg (by omega), if_neg (by omega)]
theorem rcmp_diff (k : Nat) (a b : List Int) (n : Nat) (h1 : n < a.length) (h2 : n < b.length) (h : rd a (n : Int) ≠ rd b (n : Int)) : sibylref01_Cmp.l0 (k + 1) a b (n : Int) = some (if rd a (n : Int) < rd b (n : Int) then (-1) else 1) := by
  simp only [sibylref01_Cmp.l0]
  rw [if_pos (by omega), if_pos (by omega), if_pos (by omega), if_pos (by omega)]
  by_cases c : rd a (n : Int) < rd b (n : Int)
  · rw [if_pos c, if_pos c]
  · rw [if_neg c, if_neg c, if_pos (by omega)]
theorem sgn_at (a b : List Int) (ha : Wf a) (hb : Wf b) (n : Nat) (h1 : n < a.length) (h2 : n < b.length) (hd : val (a.drop (n + 1)) = val (b.drop (n + 1))) (h0 : rd a (n : Int) ≠ rd b (n : Int)) :
    sgn (val a) (val b) = (if rd a (n : Int) < rd b (n : Int) then (-1) else 1) := by
  have ra := rd_wf ha h1
  have rb := rd_wf hb h2
  have va := val_cut a n (by omega)
  have vb := val_cut b n (by omega)
  rw [val_drop_rd h1] at va
  rw [val_drop_rd h2] at vb
  have la := val_lt (ha.take n)
  have lb := val_lt (hb.take n)
  have na := val_nonneg (ha.take n)
  have nb := val_nonneg (hb.take n)
  rw [List.length_take, Nat.min_eq_left (by omega)] at la lb
  have hp := pow_pos' n
  rw [va, vb, hd]
  generalize val (b.drop (n + 1)) = D at *
  generalize (4294967296 : Int) ^ n = P at *
  generalize rd a (n : Int) = x at *
  generalize rd b (n : Int) = y at *
  unfold sgn
  by_cases hxy : x < y
  · have : P * (x + 1) ≤ P * y := Int.mul_le_mul_of_nonneg_left (by omega) (Int.le_of_lt hp)
    rw [if_pos hxy, if_pos (by grind)]
  · have : P * (y + 1) ≤ P * x := Int.mul_le_mul_of_nonneg_left (by omega) (Int.le_of_lt hp)
    rw [if_neg hxy, if_neg (by grind), if_pos (by grind)]
theorem rcmp_l0 (a b : List Int) (ha : Wf a) (hb : Wf b) (hla : a.length ≤ 70368744177664) (he : a.length = b.length) : ∀ n : Nat, n ≤ a.length → val (a.drop n) = val (b.drop n) → Ev (fun k => sibylref01_Cmp.l0 k a b ((n : Int) - 1)) (sgn (val a) (val b))
  | 0, _, hd => by
    refine Ev.step (f := fun _ => some 0) (fun k => ?_) ?_
    · simp only [sibylref01_Cmp.l0]
      rw [if_neg (by omega)]
    · rw [List.drop_zero, List.drop_zero] at hd
      have : sgn (val a) (val b) = 0 := by unfold sgn; rw [hd, if_neg (by omega), if_neg (by omega)]
      rw [this]
      exact Ev.now _
  | n + 1, h, hd => by
    have e1 : ((n + 1 : Nat) : Int) - 1 = (n : Int) := by omega
    rw [e1]
    by_cases h0 : rd a (n : Int) = rd b (n : Int)
    · exact Ev.step (fun k => rcmp_same k a b n (by omega) (by omega) (by omega) h0) (rcmp_l0 a b ha hb hla he n (by omega) (by rw [val_drop_rd (l := a) (by omega), val_drop_rd (l := b) (i := n) (by omega), h0, hd]))
    · rw [sgn_at a b ha hb n (by omega) (by omega) hd h0]
      exact Ev.step (fun k => rcmp_diff k a b n (by omega) (by omega) h0) (Ev.now _)
theorem sgn_of_len {a b : List Int} {x y : Int} (ha : Is a x) (hb : Is b y) (h : a.length < b.length) : sgn x y = -1 := by
  have := Is.lt_of_len ha hb h
  unfold sgn
  rw [if_pos this]
theorem sgn_of_len' {a b : List Int} {x y : Int} (ha : Is a x) (hb : Is b y) (h : b.length < a.length) : sgn x y = 1 := by
  have := Is.lt_of_len hb ha h
  unfold sgn
  rw [if_neg (by omega), if_pos this]
theorem rcmp (a b : List Int) (ha : Wf a) (hb : Wf b) (hla : a.length ≤ 35184372088832) (hlb : b.length ≤ 35184372088832) : Ev (fun k => sibylref01_Cmp.f k a b) (sgn (val a) (val b)) := by
  have ia := Is.of ha rfl
  have ib := Is.of hb rfl
  have la := trim_len a
  have lb := trim_len b
  unfold sibylref01_Cmp.f
  refine Ev.bind (rtrim' a (by omega)) (Ev.bind (rtrim' b (by omega)) ?_)
  by_cases h1 : (trim a).length < (trim b).length
  · rw [sgn_of_len ia ib h1]
    exact Ev.congr (fun k => if_pos (by omega)) (Ev.now _)
  · refine Ev.congr (fun k => if_neg (by omega)) ?_
    by_cases h2 : (trim b).length < (trim a).length
    · rw [sgn_of_len' ia ib h2]
      exact Ev.congr (fun k => if_pos (by omega)) (Ev.now _)
    · refine Ev.congr (fun k => if_neg (by omega)) ?_
      have := rcmp_l0 (trim a) (trim b) ia.wf ib.wf (by omega) (by omega) (trim a).length (Nat.le_refl _) (by rw [List.drop_length, show (trim a).length = (trim b).length from by omega, List.drop_length])
      rw [ia.val, ib.val] at this
      rwa [wsub1 (by omega)]
end Go.Proofs.Ytgffficaoioljaa.PlN
end
section
namespace Go.Proofs.Ytgffficaoioljaa.PlN
open Go.RowKit Go.Proofs.Ytgffficaoioljaa.P Go.Proofs.Ytgffficaoioljaa.Pl Go.Proofs.Ytgffficaoioljaa.PlA Go.Proofs.YtgffficaoioljaaW.PrintWords Go.Proofs.YtgffficaoioljaaW.PrintLast Go.Proofs.YtgffficaoioljaaW.PrintMore
set_option linter.unusedVariables false
theorem fit_len (l : List Int) : (fitOf l).1.length ≤ 16 := by
  unfold fitOf
  split
  · simp
  · simp only; omega
theorem fitted {g : Nat → Option (List Int)} {r : List Int} (h : Ev g r) : Ev (fun k => (g k).bind fun t => (limb_fit.f t).bind fun bt => some (bt.1, bt.2)) (fitOf r) := by
  refine Ev.bind h ?_
  refine Ev.congr (fun k => ?_) (Ev.now _)
  rw [fit]; rfl
theorem limbCmp (a b : List Int) (ha : Wf a) (hb : Wf b) (hl : a.length ≤ 9223372036854775806) (hlb : b.length ≤ 9223372036854775806) : Ev (fun k => limb_Cmp.f k a b) (sgn (val a) (val b)) :=
  Ev.bind (cmp a b ha hb hl hlb) (Ev.now _)
theorem same_fit (l : List Int) : Ev (fun k => sibylref01_Same.f k (fitOf l).1 (fitOf l).1) true := rsame_refl _ (Nat.le_trans (fit_len l) (by decide))
end Go.Proofs.Ytgffficaoioljaa.PlN
end
