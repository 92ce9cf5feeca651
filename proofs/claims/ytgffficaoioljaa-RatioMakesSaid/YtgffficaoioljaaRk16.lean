import Derived.Test.YtgffficaoioljaaRk10
import Derived.Test.YtgffficaoioljaaRk11
import Derived.Test.YtgffficaoioljaaRk12
import Derived.Test.YtgffficaoioljaaRk13
import Derived.Laws.BytesArg
section
namespace Go.Proofs.Ytgffficaoioljaa.PlN
open Go.RowKit Go.Proofs.Ytgffficaoioljaa.P Go.Proofs.Ytgffficaoioljaa.Pl Go.Proofs.Ytgffficaoioljaa.PlA Go.Proofs.YtgffficaoioljaaW.PrintWords Go.Proofs.YtgffficaoioljaaW.PrintLast Go.Proofs.YtgffficaoioljaaW.PrintMore
theorem trim_take_zero {l : List Int} {n : Nat} (h : n < l.length) (h0 : rd l (n : Int) = 0) : trim (l.take (n + 1)) = trim (l.take n) := by
 rw [take_succ h, h0, trim_zero]
theorem trim_take_ne {l : List Int} {n : Nat} (h : n < l.length) (h0 : rd l (n : Int) ≠ 0) : trim (l.take (n + 1)) = l.take (n + 1) := by
 rw [take_succ h, trim_snoc _ _ h0]
theorem cut_l0 (l : List Int) (hl : l.length ≤ 9223372036854775807) : ∀ n : Nat, n ≤ l.length → Ev (fun k => nats_cut.l0 k l (n : Int)) (trim (l.take n))
 | 0, _ => by
  refine Ev.step (f := fun _ => some []) (fun k => ?_) (Ev.now _)
  simp only [nats_cut.l0]
  rw [if_neg (by omega), if_pos (by omega), if_pos (by omega)]
  rfl
 | n + 1, h => by
  have hw : wrap64 (((n + 1 : Nat) : Int) - 1) = (n : Int) := by rw [w64 (by omega) (by omega)]; omega
  by_cases h0 : rd l (n : Int) = 0
  ·rw [trim_take_zero (by omega) h0]
   refine Ev.step (fun k => ?_) (cut_l0 l hl n (by omega))
   simp only [nats_cut.l0]
   rw [hw, if_pos (by omega), if_pos (by omega), if_pos (by omega), if_pos h0]
  ·rw [trim_take_ne (by omega) h0]
   refine Ev.step (f := fun _ => some (l.take (n + 1))) (fun k => ?_) (Ev.now _)
   simp only [nats_cut.l0]
   rw [hw, if_pos (by omega), if_pos (by omega), if_pos (by omega), if_neg h0, if_pos (by omega), if_pos (by omega), Int.toNat_natCast]
theorem cut (l : List Int) (hl : l.length ≤ 9223372036854775807) : Ev (fun k => nats_cut.f k l) (trim l) := by
 have := cut_l0 l hl l.length (Nat.le_refl _)
 rwa [List.take_length] at this
theorem cuto_l0 (l : List Int) (hl : l.length ≤ 9223372036854775807) : ∀ n : Nat, n ≤ l.length → Ev (fun k => nats_cuto.l0 k l (n : Int)) (trim (l.take n))
 | 0, _ => by
  refine Ev.step (f := fun _ => some []) (fun k => ?_) (Ev.now _)
  simp only [nats_cuto.l0]
  rw [if_neg (by omega), if_pos (by omega), if_pos (by omega)]
  rfl
 | n + 1, h => by
  have hw : wrap64 (((n + 1 : Nat) : Int) - 1) = (n : Int) := by rw [w64 (by omega) (by omega)]; omega
  by_cases h0 : rd l (n : Int) = 0
  ·rw [trim_take_zero (by omega) h0]
   refine Ev.step (fun k => ?_) (cuto_l0 l hl n (by omega))
   simp only [nats_cuto.l0]
   rw [hw, if_pos (by omega), if_pos (by omega), if_pos (by omega), if_pos h0]
  ·rw [trim_take_ne (by omega) h0]
   refine Ev.step (f := fun _ => some (l.take (n + 1))) (fun k => ?_) (Ev.now _)
   simp only [nats_cuto.l0]
   rw [hw, if_pos (by omega), if_pos (by omega), if_pos (by omega), if_neg h0, if_pos (by omega), if_pos (by omega), Int.toNat_natCast]
theorem cuto (l : List Int) (hl : l.length ≤ 9223372036854775807) : Ev (fun k => nats_cuto.f k l) (trim l) := by
 have := cuto_l0 l hl l.length (Nat.le_refl _)
 rwa [List.take_length] at this
theorem trim_l0 (l : List Int) (hl : l.length < 35184372088832) : ∀ n : Nat, n ≤ l.length → Ev (fun k => nats_Trim.l0 k l (n : Int)) (trim (l.take n))
 | 0, _ => by
  refine Ev.step (f := fun _ => some []) (fun k => ?_) (Ev.now _)
  simp only [nats_Trim.l0]
  rw [if_neg (by omega), if_pos (by omega), if_pos (by omega), if_pos (by simp)]
  rfl
 | n + 1, h => by
  have hw : wrap64 (((n + 1 : Nat) : Int) - 1) = (n : Int) := by rw [w64 (by omega) (by omega)]; omega
  by_cases h0 : rd l (n : Int) = 0
  ·rw [trim_take_zero (by omega) h0]
   refine Ev.step (fun k => ?_) (trim_l0 l hl n (by omega))
   simp only [nats_Trim.l0]
   rw [hw, if_pos (by omega), if_pos (by omega), if_pos (by omega), if_pos h0]
  ·rw [trim_take_ne (by omega) h0]
   refine Ev.step (f := fun _ => some (l.take (n + 1))) (fun k => ?_) (Ev.now _)
   simp only [nats_Trim.l0]
   rw [hw, if_pos (by omega), if_pos (by omega), if_pos (by omega), if_neg h0, if_pos (by omega), if_pos (by omega), Int.toNat_natCast, if_pos (by rw [List.length_take]; simp; omega), List.nil_append]
theorem natsTrim (l : List Int) (hl : l.length < 35184372088832) : Ev (fun k => nats_Trim.f k l) (trim l) := by
 have := trim_l0 l hl l.length (Nat.le_refl _)
 rwa [List.take_length] at this
def sgn (x y : Int) : Int := if x < y then -1 else if y < x then 1 else 0
theorem cmp_l0 (a b : List Int) (ha : Wf a) (hb : Wf b) (hla : a.length ≤ 9223372036854775807) (he : a.length = b.length) : ∀ n : Nat, n ≤ a.length → val (a.drop n) = val (b.drop n) → Ev (fun k => nats_Cmp.l0 k a b ((n : Int) - 1)) (sgn (val a) (val b))
 | 0, _, hd => by
  refine Ev.step (f := fun _ => some 0) (fun k => ?_) ?_
  ·simp only [nats_Cmp.l0]
   rw [if_neg (by omega)]
  ·rw [List.drop_zero, List.drop_zero] at hd
   have : sgn (val a) (val b) = 0 := by unfold sgn; rw [hd, if_neg (by omega), if_neg (by omega)]
   rw [this]
   exact Ev.now _
 | n + 1, h, hd => by
  have e1 : ((n + 1 : Nat) : Int) - 1 = (n : Int) := by omega
  have hw : wrap64 ((n : Int) - 1) = (n : Int) - 1 := w64 (by omega) (by omega)
  rw [e1]
  by_cases h0 : rd a (n : Int) = rd b (n : Int)
  ·refine Ev.step (fun k => ?_) (cmp_l0 a b ha hb hla he n (by omega) ?_)
   ·simp only [nats_Cmp.l0]
    rw [hw, if_pos (by omega), if_pos (by omega), if_pos (by omega), if_pos (by omega), if_pos h0]
   ·rw [val_drop_rd (l := a) (by omega), val_drop_rd (l := b) (i := n) (by omega), h0, hd]
  ·have ra := rd_wf ha (i := n) (by omega)
   have rb := rd_wf hb (i := n) (by omega)
   have va := val_cut a n (by omega)
   have vb := val_cut b n (by omega)
   rw [val_drop_rd (by omega)] at va vb
   have la := val_lt (ha.take n)
   have lb := val_lt (hb.take n)
   have na := val_nonneg (ha.take n)
   have nb := val_nonneg (hb.take n)
   rw [List.length_take, Nat.min_eq_left (by omega)] at la lb
   have hp := pow_pos' n
   refine Ev.step (f := fun _ => some (if rd a (n : Int) < rd b (n : Int) then (-1) else 1)) (fun k => ?_) ?_
   ·simp only [nats_Cmp.l0]
    rw [if_pos (by omega), if_pos (by omega), if_pos (by omega), if_pos (by omega), if_neg h0]
    split <;> rfl
   ·have hs : sgn (val a) (val b) = (if rd a (n : Int) < rd b (n : Int) then (-1) else 1) := by
     rw [va, vb, hd]
     generalize val (b.drop (n + 1)) = D at *
     generalize (4294967296 : Int) ^ n = P at *
     generalize rd a (n : Int) = x at *
     generalize rd b (n : Int) = y at *
     unfold sgn
     by_cases hxy : x < y
     ·have : P * (x + 1) ≤ P * y := Int.mul_le_mul_of_nonneg_left (by omega) (Int.le_of_lt hp)
      rw [if_pos hxy, if_pos (by grind)]
     ·have : P * (y + 1) ≤ P * x := Int.mul_le_mul_of_nonneg_left (by omega) (Int.le_of_lt hp)
      rw [if_neg hxy, if_neg (by grind), if_pos (by grind)]
    rw [hs]
    exact Ev.now _
theorem Is.lt_of_len {a b : List Int} {x y : Int} (ha : Is a x) (hb : Is b y) (h : a.length < b.length) : x < y := by
 have h1 := ha.lt
 have h2 := hb.ge (by intro e; rw [e] at h; simp at h)
 have h3 := pow_le (m := a.length) (n := b.length - 1) (by omega)
 omega
theorem cmp (a b : List Int) (ha : Wf a) (hb : Wf b) (hla : a.length ≤ 9223372036854775806) (hlb : b.length ≤ 9223372036854775806) : Ev (fun k => nats_Cmp.f k a b) (sgn (val a) (val b)) := by
 have ia := Is.of ha rfl
 have ib := Is.of hb rfl
 have la := trim_len a
 have lb := trim_len b
 unfold nats_Cmp.f
 refine Ev.bind (cut a (by omega)) (Ev.bind (cut b (by omega)) ?_)
 by_cases he : (trim a).length = (trim b).length
 ·refine Ev.congr (f := fun k => nats_Cmp.l0 k (trim a) (trim b) (((trim a).length : Int) - 1)) (fun k => ?_) ?_
  ·rw [if_pos (by omega), w64 (by omega) (by omega)]
  ·have := cmp_l0 (trim a) (trim b) ia.wf ib.wf (by omega) he (trim a).length (Nat.le_refl _) (by rw [List.drop_length, he, List.drop_length])
   rwa [ia.val, ib.val] at this
 ·refine Ev.congr (f := fun k => some (if (trim a).length < (trim b).length then (-1) else 1)) (fun k => ?_) ?_
  ·rw [if_neg (by omega)]
   by_cases h : (trim a).length < (trim b).length
   ·rw [if_pos (by omega), if_pos h]
   ·rw [if_neg (by omega), if_neg h]
  ·have hs : sgn (val a) (val b) = (if (trim a).length < (trim b).length then (-1) else 1) := by
    unfold sgn
    by_cases h : (trim a).length < (trim b).length
    ·have := Is.lt_of_len ia ib h
     rw [if_pos h, if_pos this]
    ·have := Is.lt_of_len ib ia (by omega)
     rw [if_neg h, if_neg (by omega), if_pos this]
   rw [hs]
   exact Ev.now _
theorem val_take_succ' (l : List Int) (i : Nat) : val (l.take (i + 1)) = val (l.take i) + 4294967296 ^ i * rd l (i : Int) := by
 rcases Nat.lt_or_ge i l.length with h | h
 ·exact val_take_succ h
 ·rw [val_take_big h, val_take_big (Nat.le_succ_of_le h), rd_big h]; simp
theorem rd_wf' {l : List Int} (hw : Wf l) (i : Nat) : 0 ≤ rd l (i : Int) ∧ rd l (i : Int) < 4294967296 := by
 rcases Nat.lt_or_ge i l.length with h | h
 ·exact rd_wf hw h
 ·rw [rd_big h]; omega
theorem add32 {x y c : Int} (hx : 0 ≤ x ∧ x < 4294967296) (hy : 0 ≤ y ∧ y < 4294967296) (hc : 0 ≤ c ∧ c ≤ 1) : bits_Add32.f x y c = some ((x + y + c) % 4294967296, (x + y + c) / 4294967296) := by
 unfold bits_Add32.f
 rw [u64 (x := x) (by omega) (by omega), u64 (x := y) (by omega) (by omega), u64 (x := c) (by omega) (by omega), u64 (x := x + y) (by omega) (by omega), u64 (x := x + y + c) (by omega) (by omega)]
 rw [show (x + y + c) / 4294967296 % 4294967296 = (x + y + c) / 4294967296 from by omega]
theorem pow_succ' (n : Nat) : (4294967296 : Int) ^ (n + 1) = 4294967296 ^ n * 4294967296 := Int.pow_succ _ _
theorem add32' {x y c : Int} (hx : 0 ≤ x ∧ x < 4294967296) (hy : 0 ≤ y ∧ y < 4294967296) (hc : 0 ≤ c ∧ c ≤ 1) : ∃ s c2, bits_Add32.f x y c = some (s, c2) ∧ (0 ≤ s ∧ s < 4294967296) ∧ (0 ≤ c2 ∧ c2 ≤ 1) ∧ s + 4294967296 * c2 = x + y + c :=
 ⟨_, _, add32 hx hy hc, by omega, by omega, by omega⟩
theorem add_l0 (a b : List Int) (ha : Wf a) (hb : Wf b) (hl : a.length < 35184372088831) : ∀ (d i : Nat) (out : List Int) (c : Int), d + i = a.length → out.length = i → Wf out → 0 ≤ c ∧ c ≤ 1 → b.length ≤ a.length →
  Hd (val out + 4294967296 ^ i * c = val (a.take i) + val (b.take i)) → ∃ r, Ev (fun k => nats_Add.l0 k a b out c (a.length : Int) (i : Int)) r ∧ Is r (val a + val b)
 | 0, i, out, c, hi, ho, hw, hc, hab, hv => by
  have e1 : a.take i = a := List.take_of_length_le (by omega)
  have e2 : b.take i = b := List.take_of_length_le (by omega)
  refine ⟨trim (out ++ [c]), ?_, Is.of (hw.append (Wf.one hc.1 (by omega))) (by rw [val_snoc, ho]; replace hv := hv.out; rw [e1, e2] at hv; exact hv)⟩
  clear hv
  refine Ev.step (f := fun k => (nats_cuto.f k (out ++ [c])).bind fun t => some t) (fun k => ?_) (Ev.bind (cuto _ (by simp; omega)) (Ev.now _))
  simp only [nats_Add.l0]
  rw [if_neg (by omega), if_pos (by omega)]
 | d + 1, i, out, c, hi, ho, hw, hc, hab, hv => by
  obtain ⟨s, c2, h32, hs0, hc2, hs⟩ := add32' (rd_wf' ha i) (rd_wf' hb i) hc
  have hv2 : Hd (val (out ++ [s]) + 4294967296 ^ (i + 1) * c2 = val (a.take (i + 1)) + val (b.take (i + 1))) := ⟨by
   replace hv := hv.out
   rw [val_snoc, ho, pow_succ', val_take_succ' a, val_take_succ' b]
   generalize (4294967296 : Int) ^ i = P at *
   generalize rd a (i : Int) = x at *
   generalize rd b (i : Int) = y at *
   grind⟩
  clear hv hs
  obtain ⟨r, hr, hI⟩ := add_l0 a b ha hb hl d (i + 1) (out ++ [s]) c2 (by omega) (by simp [ho]) (hw.append (Wf.one hs0.1 hs0.2)) hc2 hab hv2
  refine ⟨r, ?_, hI⟩
  have hw1 : wrap64 ((i : Int) + 1) = ((i + 1 : Nat) : Int) := by rw [w64 (by omega) (by omega)]; omega
  clear hv2 hI ha hb hw
  refine Ev.step (fun k => ?_) hr
  simp only [nats_Add.l0]
  rw [if_pos (by omega)]
  by_cases hib : i < b.length
  ·rw [if_pos (by omega), if_pos (by omega), if_pos (by omega), h32]
   simp only [Option.bind_some]
   rw [if_pos (by omega), hw1]
  ·have hy0 : rd b (i : Int) = 0 := rd_big (by omega)
   rw [if_neg (by omega), if_pos (by omega), if_pos (by omega)]
   rw [hy0] at h32
   rw [h32]
   simp only [Option.bind_some]
   rw [if_pos (by omega), hw1]
theorem add_j0 (a b : List Int) (ha : Wf a) (hb : Wf b) (hl : a.length < 35184372088831) (hab : b.length ≤ a.length) : ∃ r, Ev (fun k => nats_Add.j0 k a b) r ∧ Is r (val a + val b) := by
 obtain ⟨r, hr, hI⟩ := add_l0 a b ha hb hl a.length 0 [] 0 (by omega) rfl Wf.nil (by omega) hab ⟨by simp [val]⟩
 refine ⟨r, ?_, hI⟩
 refine Ev.step (fun k => ?_) hr
 simp only [nats_Add.j0]
 rw [w64 (by omega) (by omega), if_pos (by omega), if_pos (by omega)]
 rfl
theorem add (a b : List Int) (ha : Wf a) (hb : Wf b) (hl : a.length < 35184372088831) (hlb : b.length < 35184372088831) : ∃ r, Ev (fun k => nats_Add.f k a b) r ∧ Is r (val a + val b) := by
 unfold nats_Add.f
 by_cases h : (a.length : Int) < (b.length : Int)
 ·obtain ⟨r, hr, hI⟩ := add_j0 b a hb ha hlb (by omega)
  exact ⟨r, Ev.congr (fun k => if_pos h) hr, by rw [Int.add_comm]; exact hI⟩
 ·obtain ⟨r, hr, hI⟩ := add_j0 a b ha hb hl (by omega)
  exact ⟨r, Ev.congr (fun k => if_neg h) hr, hI⟩
theorem mul_bd {x y : Int} (hx : 0 ≤ x ∧ x < 4294967296) (hy : 0 ≤ y ∧ y < 4294967296) : 0 ≤ x * y ∧ x * y ≤ 18446744065119617025 := by
 refine ⟨Int.mul_nonneg hx.1 hy.1, ?_⟩
 have : x * y ≤ 4294967295 * 4294967295 := Int.mul_le_mul (by omega) (by omega) hy.1 (by decide)
 omega
end Go.Proofs.Ytgffficaoioljaa.PlN
end
section
namespace Go.Proofs.Ytgffficaoioljaa.PlN
set_option linter.unusedVariables false
open Go.RowKit Go.Proofs.Ytgffficaoioljaa.P Go.Proofs.Ytgffficaoioljaa.Pl Go.Proofs.Ytgffficaoioljaa.PlA Go.Proofs.YtgffficaoioljaaW.PrintWords Go.Proofs.YtgffficaoioljaaW.PrintLast Go.Proofs.YtgffficaoioljaaW.PrintMore
theorem drop_set_lt {l : List Int} {i n : Nat} (h : i < n) (x : Int) : (l.set i x).drop n = l.drop n := by
 apply List.ext_getElem?
 intro k
 rw [List.getElem?_drop, List.getElem?_drop, List.getElem?_set_ne (by omega)]
theorem rd_drop (l : List Int) (n k : Nat) : rd (l.drop n) (k : Int) = rd l ((n + k : Nat) : Int) := by
 rw [rd_nat, rd_nat]; simp [List.getD_eq_getElem?_getD, List.getElem?_drop]
theorem wadd {i j : Nat} (h : i + j ≤ 140737488355328) : wrap64 ((i : Int) + (j : Int)) = ((i + j : Nat) : Int) := by rw [w64 (by omega) (by omega)]; omega
theorem winc {i : Nat} (h : i ≤ 140737488355328) : wrap64 ((i : Int) + 1) = ((i + 1 : Nat) : Int) := by rw [w64 (by omega) (by omega)]; omega
end Go.Proofs.Ytgffficaoioljaa.PlN
end
section
namespace Go.Proofs.Ytgffficaoioljaa.PlN
open Go.RowKit Go.Proofs.Ytgffficaoioljaa.P Go.Proofs.Ytgffficaoioljaa.Pl Go.Proofs.Ytgffficaoioljaa.PlA Go.Proofs.YtgffficaoioljaaW.PrintWords Go.Proofs.YtgffficaoioljaaW.PrintLast Go.Proofs.YtgffficaoioljaaW.PrintMore
set_option linter.unusedVariables false
theorem divstep {r x w : Int} (hw : 0 < w) (hr : 0 ≤ r ∧ r < w) (hx : 0 ≤ x ∧ x < 4294967296) : ∃ q r2, Hd ((r * 4294967296 + x) / w = q) ∧ Hd ((r * 4294967296 + x) % w = r2) ∧ (0 ≤ q ∧ q < 4294967296) ∧ (0 ≤ r2 ∧ r2 < w) ∧ Hd (q * w + r2 = r * 4294967296 + x) := by
 have h0 : 0 ≤ r * 4294967296 + x := by omega
 have h1 : r * 4294967296 + x < 4294967296 * w := by omega
 refine ⟨_, _, ⟨rfl⟩, ⟨rfl⟩, ⟨Int.ediv_nonneg h0 (by omega), Int.ediv_lt_of_lt_mul hw h1⟩, ⟨Int.emod_nonneg _ (by omega), Int.emod_lt_of_pos _ hw⟩, ⟨?_⟩⟩
 have := Int.emod_def (r * 4294967296 + x) w
 have e := Int.mul_comm w ((r * 4294967296 + x) / w)
 omega
theorem tmod_nn {x w : Int} (h : 0 ≤ x) : Int.tmod x w = x % w := Int.tmod_eq_emod_of_nonneg h
theorem tdiv_nn {x w : Int} (h : 0 ≤ x) : Int.tdiv x w = x / w := Int.tdiv_eq_ediv_of_nonneg h
theorem word_step (k : Nat) (a out : List Int) (w r q r2 : Int) (n : Nat) (ha : Wf a) (hn : n < a.length) (ho : n < out.length) (hl : a.length ≤ 70368744177664) (hw : 0 < w ∧ w < 4294967296) (hr : 0 ≤ r ∧ r < w)
  (eq : Hd ((r * 4294967296 + rd a (n : Int)) / w = q)) (er : Hd ((r * 4294967296 + rd a (n : Int)) % w = r2)) (hq : 0 ≤ q ∧ q < 4294967296) :
  nats_word.l0 (k + 1) a w out r (n : Int) = nats_word.l0 k a w (out.set n q) r2 ((n : Int) - 1) := by
 have hx := rd_wf' ha n
 simp only [nats_word.l0]
 rw [u64 (x := w) (by omega) (by omega), u64 (x := r * 4294967296) (by omega) (by omega), u64 (x := rd a (n : Int)) (by omega) (by omega), or_low (by omega) (by omega) (by omega) (by omega), tdiv_nn (by omega), tmod_nn (by omega), eq.out, er.out,
  u64 (x := q) (by omega) (by omega), show q % 4294967296 = q from by omega, Int.toNat_natCast, w64 (x := (n : Int) - 1) (by omega) (by omega), if_pos (by omega), if_pos (by omega), if_pos (by omega), if_neg (by omega), if_pos (by omega)]
theorem word_end (k : Nat) (a out : List Int) (w r : Int) (hr : 0 ≤ r ∧ r < 4294967296) : nats_word.l0 (k + 1) a w out r (-1) = (nats_cuto.f k out).bind fun t => some (t, r) := by
 simp only [nats_word.l0]
 rw [if_neg (by omega), show r % 4294967296 = r from by omega]
theorem word_l0 (a : List Int) (w : Int) (ha : Wf a) (hl : a.length ≤ 70368744177664) (hw : 0 < w ∧ w < 4294967296) : ∀ (n : Nat) (out : List Int) (r : Int), n ≤ a.length → out.length = a.length → Wf out → 0 ≤ r ∧ r < w → Hd (val (out.drop n) * w + r = val (a.drop n)) →
  ∃ q r2, Ev (fun k => nats_word.l0 k a w out r ((n : Int) - 1)) (trim q, r2) ∧ Wf q ∧ q.length = a.length ∧ (0 ≤ r2 ∧ r2 < w) ∧ val q * w + r2 = val a
 | 0, out, r, hn, ho, hwf, hr, hv => by
  refine ⟨out, r, ?_, hwf, ho, hr, by simpa using hv.out⟩
  exact Ev.step (fun k => word_end k a out w r (by omega)) (Ev.bind (cuto out (by omega)) (Ev.now _))
 | n + 1, out, r, hn, ho, hwf, hr, hv => by
  obtain ⟨q, r2, eq, er, hq, hr2, hqr⟩ := divstep hw.1 hr (rd_wf' ha n)
  have hv2 : Hd (val ((out.set n q).drop n) * w + r2 = val (a.drop n)) := ⟨by
   rw [val_drop_rd (l := out.set n q) (by simp; omega), val_drop_rd (l := a) (by omega), rd_set_self (by omega), drop_set_lt (by omega)]
   have h1 := hv.out
   have h2 := hqr.out
   clear eq er
   generalize val (out.drop (n + 1)) = Q at *
   generalize val (a.drop (n + 1)) = A at *
   generalize rd a (n : Int) = x at *
   grind⟩
  obtain ⟨q', r', h, h1, h2, h3, h4⟩ := word_l0 a w ha hl hw n (out.set n q) r2 (by omega) (by simp [ho]) (hwf.set _ hq.1 hq.2) hr2 hv2
  refine ⟨q', r', ?_, h1, h2, h3, h4⟩
  rw [show ((n + 1 : Nat) : Int) - 1 = (n : Int) from by omega]
  exact Ev.step (fun k => word_step k a out w r q r2 n ha (by omega) (by omega) hl hw hr eq er hq) h
theorem word (a : List Int) (w : Int) (ha : Wf a) (hl : a.length ≤ 70368744177664) (hw : 0 < w ∧ w < 4294967296) : ∃ q, Ev (fun k => nats_word.f k a w) (q, val a % w) ∧ Is q (val a / w) := by
 obtain ⟨q, r, h, h1, h2, h3, h4⟩ := word_l0 a w ha hl hw a.length (List.replicate a.length 0) 0 (Nat.le_refl _) (by simp) (Wf.zeros _) (by omega) ⟨by simp [val]⟩
 have e1 : val a / w = val q := by
  rw [← h4, Int.add_comm, Int.add_mul_ediv_right _ _ (by omega), Int.ediv_eq_zero_of_lt h3.1 h3.2, Int.zero_add]
 have e2 : val a % w = r := by
  rw [← h4, Int.add_comm, Int.add_mul_emod_self_right, Int.emod_eq_of_lt h3.1 h3.2]
 rw [e2, e1]
 refine ⟨trim q, ?_, Is.of h1 rfl⟩
 unfold nats_word.f
 refine Ev.congr (fun k => ?_) h
 rw [if_pos (by omega), Int.toNat_natCast, if_pos hl, w64 (by omega) (by omega)]
theorem u64_wrap2 (x b : Int) : IntKind.u64.wrap (IntKind.u64.wrap x - b) = (x - b) % 18446744073709551616 := by
 rw [u64_mod, u64_mod]; omega
theorem dstep {o v g c b : Int} (ho : 0 ≤ o ∧ o < 4294967296) (hv : 0 ≤ v ∧ v < 4294967296) (hg : 0 ≤ g ∧ g < 4294967296) (hc : 0 ≤ c ∧ c < 4294967296) (hb : 0 ≤ b ∧ b ≤ 1) :
  ∃ s c2 b2, Hd ((IntKind.u64.wrap ((IntKind.u64.wrap ((IntKind.u64.wrap o) - ((IntKind.u64.wrap ((IntKind.u64.wrap (g * (IntKind.u64.wrap v))) + c)) % 4294967296))) - b)) % 4294967296 = s) ∧
   Hd ((IntKind.u64.wrap ((IntKind.u64.wrap ((IntKind.u64.wrap o) - ((IntKind.u64.wrap ((IntKind.u64.wrap (g * (IntKind.u64.wrap v))) + c)) % 4294967296))) - b)) / 9223372036854775808 = b2) ∧
   Hd ((IntKind.u64.wrap ((IntKind.u64.wrap (g * (IntKind.u64.wrap v))) + c)) / 4294967296 = c2) ∧
   (0 ≤ s ∧ s < 4294967296) ∧ (0 ≤ c2 ∧ c2 < 4294967296) ∧ (0 ≤ b2 ∧ b2 ≤ 1) ∧ Hd (s + g * v + c + b = o + 4294967296 * (c2 + b2)) := by
 have hgv := mul_bd hg hv
 rw [u64 (x := o) (by omega) (by omega), u64 (x := v) (by omega) (by omega)]
 generalize g * v = m at *
 rw [u64 (x := m) (by omega) (by omega), u64 (x := m + c) (by omega) (by omega), u64_wrap2]
 exact ⟨_, _, _, ⟨rfl⟩, ⟨rfl⟩, ⟨rfl⟩, by omega, by omega, by omega, ⟨by omega⟩⟩
theorem dlast {o c b : Int} (ho : 0 ≤ o ∧ o < 4294967296) (hc : 0 ≤ c ∧ c < 4294967296) (hb : 0 ≤ b ∧ b ≤ 1) :
  ∃ s b2, Hd ((IntKind.u64.wrap ((IntKind.u64.wrap ((IntKind.u64.wrap o) - c)) - b)) % 4294967296 = s) ∧ Hd ((IntKind.u64.wrap ((IntKind.u64.wrap ((IntKind.u64.wrap o) - c)) - b)) / 9223372036854775808 = b2) ∧
   (0 ≤ s ∧ s < 4294967296) ∧ (0 ≤ b2 ∧ b2 ≤ 1) ∧ Hd (s + c + b = o + 4294967296 * b2) := by
 rw [u64 (x := o) (by omega) (by omega), u64_wrap2]
 exact ⟨_, _, ⟨rfl⟩, ⟨rfl⟩, by omega, by omega, ⟨by omega⟩⟩
theorem d1_step (k : Nat) (O V : List Int) (g b c s c2 b2 n : Int) (i : Nat) (hi : (i : Int) < n) (hv : i < V.length) (ho : i < O.length) (hl : O.length ≤ 70368744177664)
  (es : Hd ((IntKind.u64.wrap ((IntKind.u64.wrap ((IntKind.u64.wrap (rd O (i : Int))) - ((IntKind.u64.wrap ((IntKind.u64.wrap (g * (IntKind.u64.wrap (rd V (i : Int))))) + c)) % 4294967296))) - b)) % 4294967296 = s))
  (eb : Hd ((IntKind.u64.wrap ((IntKind.u64.wrap ((IntKind.u64.wrap (rd O (i : Int))) - ((IntKind.u64.wrap ((IntKind.u64.wrap (g * (IntKind.u64.wrap (rd V (i : Int))))) + c)) % 4294967296))) - b)) / 9223372036854775808 = b2))
  (ec : Hd ((IntKind.u64.wrap ((IntKind.u64.wrap (g * (IntKind.u64.wrap (rd V (i : Int))))) + c)) / 4294967296 = c2)) :
  nats_digit.l1 (k + 1) O V n g b c n (i : Int) = nats_digit.l1 k (O.set i s) V n g b2 c2 n ((i + 1 : Nat) : Int) := by
 simp only [nats_digit.l1]
 rw [if_pos hi, if_pos (by omega), if_pos (by omega), if_pos (by omega), winc (by omega), Int.toNat_natCast, es.out, eb.out, ec.out]
theorem d1_end (k : Nat) (O V : List Int) (g b c s b2 : Int) (n : Nat) (ho : n < O.length)
  (es : Hd ((IntKind.u64.wrap ((IntKind.u64.wrap ((IntKind.u64.wrap (rd O (n : Int))) - c)) - b)) % 4294967296 = s)) (eb : Hd ((IntKind.u64.wrap ((IntKind.u64.wrap ((IntKind.u64.wrap (rd O (n : Int))) - c)) - b)) / 9223372036854775808 = b2)) :
  nats_digit.l1 (k + 1) O V (n : Int) g b c (n : Int) (n : Int) = if b2 = 0 then some (g % 4294967296, O.set n s) else nats_digit.l2 k (O.set n s) V (n : Int) g 0 (n : Int) 0 := by
 simp only [nats_digit.l1]
 rw [if_neg (by omega), if_pos (by omega), if_pos (by omega), Option.bind_some, Int.toNat_natCast, es.out, eb.out]
theorem d1 (U V : List Int) (g : Int) (hV : Wf V) (hg : 0 ≤ g ∧ g < 4294967296) (hu : U.length = V.length + 1) (hl : U.length ≤ 70368744177664) {R : Int × List Int}
  (hend : ∀ (O : List Int) (b2 : Int), Wf O → O.length = V.length + 1 → 0 ≤ b2 ∧ b2 ≤ 1 → Hd (val O + g * val V = val U + 4294967296 ^ (V.length + 1) * b2) → Ev (fun k => if b2 = 0 then some (g % 4294967296, O) else nats_digit.l2 k O V (V.length : Int) g 0 (V.length : Int) 0) R) :
  ∀ (d i : Nat) (O : List Int) (c b : Int), d + i = V.length → O.length = U.length → Wf O → 0 ≤ c ∧ c < 4294967296 → 0 ≤ b ∧ b ≤ 1 → O.drop i = U.drop i → Hd (val (O.take i) + g * val (V.take i) = val (U.take i) + 4294967296 ^ i * (c + b)) →
   Ev (fun k => nats_digit.l1 k O V (V.length : Int) g b c (V.length : Int) (i : Int)) R
 | 0, i, O, c, b, hi, ho, hw, hc, hb, hd, hv => by
  have ei : i = V.length := by omega
  subst ei
  have hrd : rd O (V.length : Int) = rd U (V.length : Int) := by
   have h1 := rd_drop O V.length 0
   have h2 := rd_drop U V.length 0
   rw [hd] at h1
   rw [h1] at h2
   simpa using h2
  obtain ⟨s, b2, es, eb, hs, hb2, hss⟩ := dlast (rd_wf' hw V.length) hc hb
  refine Ev.step (fun k => d1_end k O V g b c s b2 V.length (by omega) es eb) (hend (O.set V.length s) b2 (hw.set _ hs.1 hs.2) (by simp; omega) hb2 ⟨?_⟩)
  have h1 := hv.out
  have h2 := hss.out
  have e1 : val (O.set V.length s) = val (O.take V.length) + 4294967296 ^ V.length * s := by
   rw [← val_take_set (by omega), List.take_of_length_le (by simp; omega)]
  have e2 : val U = val (U.take V.length) + 4294967296 ^ V.length * rd U (V.length : Int) := by
   rw [← val_take_succ' U, List.take_of_length_le (by omega)]
  rw [e1, e2, ← hrd, pow_succ']
  rw [List.take_length] at h1
  generalize rd O (V.length : Int) = o at *
  generalize (4294967296 : Int) ^ V.length = P at *
  clear es eb hend
  grind
 | d + 1, i, O, c, b, hi, ho, hw, hc, hb, hd, hv => by
  obtain ⟨s, c2, b2, es, eb, ec, hs, hc2, hb2, hss⟩ := dstep (rd_wf' hw i) (rd_wf' hV i) hg hc hb
  have hrd : rd O (i : Int) = rd U (i : Int) := by
   have h1 := rd_drop O i 0
   have h2 := rd_drop U i 0
   rw [hd] at h1
   rw [h1] at h2
   simpa using h2
  refine Ev.step (fun k => d1_step k O V g b c s c2 b2 (V.length : Int) i (by omega) (by omega) (by omega) (by omega) es eb ec) (d1 U V g hV hg hu hl hend d (i + 1) (O.set i s) c2 b2 (by omega) (by simp [ho]) (hw.set _ hs.1 hs.2) hc2 hb2 ?_ ⟨?_⟩)
  ·rw [drop_set_lt (by omega)]
   have := congrArg (List.drop 1) hd
   rwa [List.drop_drop, List.drop_drop] at this
  ·have h1 := hv.out
   have h2 := hss.out
   rw [val_take_set (by omega), val_take_succ' V, val_take_succ' U, ← hrd, pow_succ']
   generalize rd O (i : Int) = o at *
   generalize rd V (i : Int) = v at *
   generalize (4294967296 : Int) ^ i = P at *
   clear es eb ec hend
   grind
theorem d2_step (k : Nat) (O V : List Int) (g c s c2 n : Int) (i : Nat) (hi : (i : Int) < n) (hv : i < V.length) (ho : i < O.length) (hl : O.length ≤ 70368744177664) (h32 : bits_Add32.f (rd O (i : Int)) (rd V (i : Int)) c = some (s, c2)) :
  nats_digit.l2 (k + 1) O V n g c n (i : Int) = nats_digit.l2 k (O.set i s) V n g c2 n ((i + 1 : Nat) : Int) := by
 simp only [nats_digit.l2]
 rw [if_pos hi, if_pos (by omega), if_pos (by omega), if_pos (by omega), h32, winc (by omega), Int.toNat_natCast]
 rfl
theorem d2_end (k : Nat) (O V : List Int) (g c : Int) (n : Nat) (ho : n < O.length) (hg : 1 ≤ g ∧ g < 4294967296) : nats_digit.l2 (k + 1) O V (n : Int) g c (n : Int) (n : Int) = some (g - 1, O.set n ((rd O (n : Int) + c) % 4294967296)) := by
 simp only [nats_digit.l2]
 rw [if_neg (by omega), if_pos (by omega), if_pos (by omega), Int.toNat_natCast, u64 (by omega) (by omega), show (g - 1) % 4294967296 = g - 1 from by omega]
theorem d2 (U V : List Int) (g : Int) (hV : Wf V) (hg : 1 ≤ g ∧ g < 4294967296) (hu : U.length = V.length + 1) (hl : U.length ≤ 70368744177664) (h0 : Hd (4294967296 ^ (V.length + 1) ≤ val U + val V ∧ val U + val V < 2 * 4294967296 ^ (V.length + 1))) :
  ∀ (d i : Nat) (O : List Int) (c : Int), d + i = V.length → O.length = U.length → Wf O → 0 ≤ c ∧ c ≤ 1 → O.drop i = U.drop i → Hd (val (O.take i) + 4294967296 ^ i * c = val (U.take i) + val (V.take i)) →
   ∃ R, Ev (fun k => nats_digit.l2 k O V (V.length : Int) g c (V.length : Int) (i : Int)) (g - 1, R) ∧ Wf R ∧ R.length = V.length + 1 ∧ Hd (val R = val U + val V - 4294967296 ^ (V.length + 1))
 | 0, i, O, c, hi, ho, hw, hc, hd, hv => by
  have ei : i = V.length := by omega
  subst ei
  have hrd : rd O (V.length : Int) = rd U (V.length : Int) := by
   have h1 := rd_drop O V.length 0
   have h2 := rd_drop U V.length 0
   rw [hd] at h1
   rw [h1] at h2
   simpa using h2
  have hx := rd_wf' hw V.length
  have hw2 : Wf (O.set V.length ((rd O (V.length : Int) + c) % 4294967296)) := hw.set _ (by omega) (by omega)
  refine ⟨_, Ev.step (fun k => d2_end k O V g c V.length (by omega) hg) (Ev.now _), hw2, by simp; omega, ⟨?_⟩⟩
  have h1 := hv.out
  have h3 := val_lt hw2
  have h4 := val_nonneg hw2
  have e1 : val (O.set V.length ((rd O (V.length : Int) + c) % 4294967296)) = val (O.take V.length) + 4294967296 ^ V.length * ((rd O (V.length : Int) + c) % 4294967296) := by
   rw [← val_take_set (by omega), List.take_of_length_le (by simp; omega)]
  have e2 : val U = val (U.take V.length) + 4294967296 ^ V.length * rd U (V.length : Int) := by
   rw [← val_take_succ' U, List.take_of_length_le (by omega)]
  have e3 : (O.set V.length ((rd O (V.length : Int) + c) % 4294967296)).length = V.length + 1 := by simp; omega
  rw [e3] at h3
  rw [List.take_length] at h1
  have h5 := h0.out
  have hp := pow_pos' V.length
  generalize hval : val (O.set V.length ((rd O (V.length : Int) + c) % 4294967296)) = X at *
  have hm : ∃ m, (0 ≤ m ∧ m ≤ 1) ∧ rd O (V.length : Int) + c = (rd O (V.length : Int) + c) % 4294967296 + 4294967296 * m := ⟨(rd O (V.length : Int) + c) / 4294967296, by omega, by omega⟩
  obtain ⟨m, hm0, hm1⟩ := hm
  have e4 : X = val U + val V - 4294967296 ^ (V.length + 1) * m := by
   rw [e1, e2, ← hrd, pow_succ']
   generalize (rd O (V.length : Int) + c) % 4294967296 = s at *
   generalize rd O (V.length : Int) = o at *
   generalize (4294967296 : Int) ^ V.length = P at *
   clear h0 h3 h5 hval hw2
   grind
  rcases (show m = 0 ∨ m = 1 by omega) with rfl | rfl
  ·rw [Int.mul_zero, Int.sub_zero] at e4
   omega
  ·rw [Int.mul_one] at e4
   exact e4
 | d + 1, i, O, c, hi, ho, hw, hc, hd, hv => by
  obtain ⟨s, c2, h32, hs0, hc2, hs⟩ := add32' (rd_wf' hw i) (rd_wf' hV i) hc
  have hrd : rd O (i : Int) = rd U (i : Int) := by
   have h1 := rd_drop O i 0
   have h2 := rd_drop U i 0
   rw [hd] at h1
   rw [h1] at h2
   simpa using h2
  obtain ⟨R, h1, h2, h3, h4⟩ := d2 U V g hV hg hu hl h0 d (i + 1) (O.set i s) c2 (by omega) (by simp [ho]) (hw.set _ hs0.1 hs0.2) hc2
   (by
    rw [drop_set_lt (by omega)]
    have := congrArg (List.drop 1) hd
    rwa [List.drop_drop, List.drop_drop] at this)
   ⟨by
    have h1 := hv.out
    rw [val_take_set (by omega), val_take_succ' V, val_take_succ' U, ← hrd, pow_succ']
    generalize rd O (i : Int) = o at *
    generalize rd V (i : Int) = v at *
    generalize (4294967296 : Int) ^ i = P at *
    clear h32 h0
    grind⟩
  exact ⟨R, Ev.step (fun k => d2_step k O V g c s c2 (V.length : Int) i (by omega) (by omega) (by omega) (by omega) h32) h1, h2, h3, h4⟩
structure Kn (Uv Vv W X M v1 v2 top u2 q : Int) : Prop where
 hM : 0 < M
 hV : Vv = W + (v1 * 4294967296 + v2) * M
 hW : 0 ≤ W ∧ W < M
 hU : Uv = X + (top * 4294967296 + u2) * M
 hX : 0 ≤ X ∧ X < M
 hq : 0 ≤ q ∧ q < 4294967296
 lo : q * Vv ≤ Uv
 hi : Uv < (q + 1) * Vv
 bv1 : 2147483648 ≤ v1 ∧ v1 < 4294967296
 bv2 : 0 ≤ v2 ∧ v2 < 4294967296
 bu2 : 0 ≤ u2 ∧ u2 < 4294967296
 btop : 0 ≤ top ∧ top < v1 * 4294967296 + 4294967296
theorem Kn.pos {Uv Vv W X M v1 v2 top u2 q : Int} (h : Kn Uv Vv W X M v1 v2 top u2 q) : 4294967296 * M ≤ Vv := by
 have h1 : 4294967296 * M ≤ (v1 * 4294967296 + v2) * M := Int.mul_le_mul_of_nonneg_right (by have := h.bv1; have := h.bv2; omega) (Int.le_of_lt h.hM)
 have h2 := h.hV
 have h3 := h.hW
 omega
theorem Kn.gt {Uv Vv W X M v1 v2 top u2 q g : Int} (h : Kn Uv Vv W X M v1 v2 top u2 q) (h1 : Uv < g * Vv) : q < g := by
 have h2 := h.lo
 have h3 := h.pos
 have h4 := h.hM
 rcases Int.lt_or_le q g with h5 | h5
 ·exact h5
 ·have : g * Vv ≤ q * Vv := Int.mul_le_mul_of_nonneg_right h5 (by omega)
  omega
theorem Kn.over {Uv Vv W X M v1 v2 top u2 q g r : Int} (h : Kn Uv Vv W X M v1 v2 top u2 q) (hg : 0 ≤ g) (hr : g * v1 + r = top) (ht : r * 4294967296 + u2 < g * v2) : q < g := by
 refine h.gt ?_
 have a : top * 4294967296 + u2 + 1 ≤ g * (v1 * 4294967296 + v2) := by
  have e : g * (v1 * 4294967296 + v2) = g * v1 * 4294967296 + g * v2 := by grind
  rw [e]
  generalize g * v1 = p at *
  generalize g * v2 = p2 at *
  omega
 have b : (top * 4294967296 + u2 + 1) * M ≤ g * (v1 * 4294967296 + v2) * M := Int.mul_le_mul_of_nonneg_right a (Int.le_of_lt h.hM)
 have c : g * Vv = g * W + g * (v1 * 4294967296 + v2) * M := by rw [h.hV]; grind
 have d : 0 ≤ g * W := Int.mul_nonneg hg h.hW.1
 have e : (top * 4294967296 + u2 + 1) * M = (top * 4294967296 + u2) * M + M := by grind
 have f := h.hU
 have g1 := h.hX
 omega
theorem Kn.near {Uv Vv W X M v1 v2 top u2 q g : Int} (h : Kn Uv Vv W X M v1 v2 top u2 q) (hg : 0 ≤ g ∧ g < 4294967296) (ht : g * (v1 * 4294967296 + v2) ≤ top * 4294967296 + u2) : g ≤ q + 1 := by
 have b : g * (v1 * 4294967296 + v2) * M ≤ (top * 4294967296 + u2) * M := Int.mul_le_mul_of_nonneg_right ht (Int.le_of_lt h.hM)
 have c : g * Vv = g * W + g * (v1 * 4294967296 + v2) * M := by rw [h.hV]; grind
 have d : g * W ≤ g * M := Int.mul_le_mul_of_nonneg_left (by have := h.hW; omega) hg.1
 have e : g * M ≤ 4294967295 * M := Int.mul_le_mul_of_nonneg_right (by omega) (Int.le_of_lt h.hM)
 have f := h.hU
 have g1 := h.hX
 have p := h.pos
 have hM := h.hM
 have hi := h.hi
 have k : g * Vv < (q + 2) * Vv := by
  have : (q + 2) * Vv = (q + 1) * Vv + Vv := by grind
  omega
 have := Int.lt_of_mul_lt_mul_right k (by omega)
 omega
theorem dl0_big (k : Nat) (U V : List Int) (n g r : Int) (h : 4294967296 ≤ g) : nats_digit.l0 (k + 1) U V n g r = nats_digit.j1 k U V n g r true := by
 simp only [nats_digit.l0]
 rw [if_pos (by omega)]
theorem dl0_test (k : Nat) (U V : List Int) (m : Nat) (g r : Int) (hU : Wf U) (hV : Wf V) (hu : m < U.length) (hv : m < V.length) (hm : m ≤ 70368744177664) (hg : 0 ≤ g ∧ g < 4294967296) (hr : 0 ≤ r ∧ r < 4294967296) :
  nats_digit.l0 (k + 1) U V ((m + 2 : Nat) : Int) g r = nats_digit.j1 k U V ((m + 2 : Nat) : Int) g r (decide (g * rd V (m : Int) > r * 4294967296 + rd U (m : Int))) := by
 have hx := rd_wf' hU m
 have hy := rd_wf' hV m
 have hgv := mul_bd hg hy
 simp only [nats_digit.l0]
 have e : wrap64 (((m + 2 : Nat) : Int) - 2) = (m : Int) := by rw [w64 (by omega) (by omega)]; omega
 rw [e, if_neg (by omega), if_pos (by omega), if_pos (by omega), if_pos (by omega), u64 (x := rd V (m : Int)) (by omega) (by omega), u64 (x := rd U (m : Int)) (by omega) (by omega), u64 (x := g * rd V (m : Int)) (by omega) (by omega), u64 (x := r * 4294967296) (by omega) (by omega), or_low hr.1 hr.2 hx.1 hx.2]
theorem dj1_false (k : Nat) (U V : List Int) (n g r : Int) : nats_digit.j1 (k + 1) U V n g r false = nats_digit.j2 k U V n g := by
 simp only [nats_digit.j1]
 rw [if_neg (by decide)]
theorem dj1_true (k : Nat) (U V : List Int) (m : Nat) (g r : Int) (hV : Wf V) (hv : m + 1 < V.length) (hm : m ≤ 70368744177664) (hg : 1 ≤ g ∧ g < 18446744073709551616) (hr : 0 ≤ r ∧ r < 4294967296) :
  nats_digit.j1 (k + 1) U V ((m + 2 : Nat) : Int) g r true = if r + rd V ((m + 1 : Nat) : Int) ≥ 4294967296 then nats_digit.j2 k U V ((m + 2 : Nat) : Int) (g - 1) else nats_digit.l0 k U V ((m + 2 : Nat) : Int) (g - 1) (r + rd V ((m + 1 : Nat) : Int)) := by
 have hy := rd_wf' hV (m + 1)
 simp only [nats_digit.j1]
 have e : wrap64 (((m + 2 : Nat) : Int) - 1) = ((m + 1 : Nat) : Int) := by rw [w64 (by omega) (by omega)]; omega
 rw [e, if_pos trivial, if_pos (by omega), if_pos (by omega), u64 (x := rd V ((m + 1 : Nat) : Int)) (by omega) (by omega), u64 (x := r + rd V ((m + 1 : Nat) : Int)) (by omega) (by omega), u64 (x := g - 1) (by omega) (by omega)]
theorem d0 (U V : List Int) (m : Nat) (hU : Wf U) (hV : Wf V) (hu : m < U.length) (hv : m + 1 < V.length) (hm : m ≤ 70368744177664) {Uv Vv W X M top q : Int} (h : Kn Uv Vv W X M (rd V ((m + 1 : Nat) : Int)) (rd V (m : Int)) top (rd U (m : Int)) q) {R : Int × List Int}
  (hnext : ∀ g, 0 ≤ g ∧ g < 4294967296 → q ≤ g ∧ g ≤ q + 1 → Ev (fun k => nats_digit.j2 k U V ((m + 2 : Nat) : Int) g) R) :
  ∀ (d : Nat) (g r : Int), g ≤ d → Hd (g * rd V ((m + 1 : Nat) : Int) + r = top) → 0 ≤ r ∧ r < 4294967296 → q ≤ g → Ev (fun k => nats_digit.l0 k U V ((m + 2 : Nat) : Int) g r) R := by
 have hv1 := h.bv1
 have hv2 := h.bv2
 have hu2 := h.bu2
 have ht := h.btop
 have hq := h.hq
 have less : ∀ (d : Nat) (g r : Int), g ≤ (d + 1 : Nat) → Hd (g * rd V ((m + 1 : Nat) : Int) + r = top) → 0 ≤ r ∧ r < 4294967296 → q < g →
   (∀ r', 0 ≤ r' ∧ r' < 4294967296 → Hd ((g - 1) * rd V ((m + 1 : Nat) : Int) + r' = top) → Ev (fun k => nats_digit.l0 k U V ((m + 2 : Nat) : Int) (g - 1) r') R) → Ev (fun k => nats_digit.j1 k U V ((m + 2 : Nat) : Int) g r true) R := by
  intro d g r hd hgr hr hqg hagain
  have hgr' := hgr.out
  have hg1 : (g - 1) * rd V ((m + 1 : Nat) : Int) + (r + rd V ((m + 1 : Nat) : Int)) = top := by rw [← hgr']; grind
  have hgt : g ≤ top := by
   have : g * 1 ≤ g * rd V ((m + 1 : Nat) : Int) := Int.mul_le_mul_of_nonneg_left (by omega) (by omega)
   omega
  refine Ev.step (fun k => dj1_true k U V m g r hV hv hm (by omega) hr) ?_
  by_cases c : r + rd V ((m + 1 : Nat) : Int) ≥ 4294967296
  ·refine Ev.congr (fun k => if_pos c) ?_
   have hlt : g - 1 < 4294967296 := by
    rcases Int.lt_or_le (g - 1) 4294967296 with h5 | h5
    ·exact h5
    ·have : 4294967296 * rd V ((m + 1 : Nat) : Int) ≤ (g - 1) * rd V ((m + 1 : Nat) : Int) := Int.mul_le_mul_of_nonneg_right h5 (by omega)
     omega
   have hg0 : 0 ≤ g - 1 ∧ g - 1 < 4294967296 := by omega
   refine hnext (g - 1) hg0 ⟨by omega, h.near hg0 ?_⟩
   have hb : (g - 1) * rd V (m : Int) ≤ 18446744065119617025 := (mul_bd hg0 hv2).2
   have e : (g - 1) * (rd V ((m + 1 : Nat) : Int) * 4294967296 + rd V (m : Int)) = (g - 1) * rd V ((m + 1 : Nat) : Int) * 4294967296 + (g - 1) * rd V (m : Int) := by grind
   rw [e]
   generalize (g - 1) * rd V ((m + 1 : Nat) : Int) = p at *
   generalize (g - 1) * rd V (m : Int) = p2 at *
   omega
  ·exact Ev.congr (fun k => if_neg c) (hagain _ (by omega) ⟨hg1⟩)
 intro d
 induction d with
 | zero =>
  intro g r hd hgr hr hqg
  have hg0 : g = 0 := by omega
  have hq0 : q = 0 := by omega
  refine Ev.step (fun k => dl0_test k U V m g r hU hV hu (by omega) hm (by omega) hr) ?_
  have hf : ¬ g * rd V (m : Int) > r * 4294967296 + rd U (m : Int) := by rw [hg0, Int.zero_mul]; omega
  rw [decide_eq_false hf]
  refine Ev.step (fun k => dj1_false k U V _ g r) (hnext g (by omega) (by omega))
 | succ d ih =>
  intro g r hd hgr hr hqg
  have hagain : ∀ r', 0 ≤ r' ∧ r' < 4294967296 → Hd ((g - 1) * rd V ((m + 1 : Nat) : Int) + r' = top) → q < g → Ev (fun k => nats_digit.l0 k U V ((m + 2 : Nat) : Int) (g - 1) r') R :=
   fun r' h1 h2 h3 => ih (g - 1) r' (by omega) h2 h1 (by omega)
  by_cases c : 4294967296 ≤ g
  ·exact Ev.step (fun k => dl0_big k U V _ g r c) (less d g r hd hgr hr (by omega) (fun r' h1 h2 => hagain r' h1 h2 (by omega)))
  ·have hg0 : 0 ≤ g ∧ g < 4294967296 := by omega
   refine Ev.step (fun k => dl0_test k U V m g r hU hV hu (by omega) hm hg0 hr) ?_
   by_cases t : g * rd V (m : Int) > r * 4294967296 + rd U (m : Int)
   ·rw [decide_eq_true t]
    have hqg2 := h.over hg0.1 hgr.out t
    exact less d g r hd hgr hr hqg2 (fun r' h1 h2 => hagain r' h1 h2 hqg2)
   ·rw [decide_eq_false t]
    refine Ev.step (fun k => dj1_false k U V _ g r) (hnext g hg0 ⟨hqg, h.near hg0 ?_⟩)
    have hgr' := hgr.out
    have e : g * (rd V ((m + 1 : Nat) : Int) * 4294967296 + rd V (m : Int)) = g * rd V ((m + 1 : Nat) : Int) * 4294967296 + g * rd V (m : Int) := by grind
    rw [e]
    generalize g * rd V ((m + 1 : Nat) : Int) = p at *
    generalize g * rd V (m : Int) = p2 at *
    omega
def fixN : Nat → Int → List Int
 | 0, _ => []
 | n + 1, v => (v % 4294967296) :: fixN n (v / 4294967296)
theorem fixN_len : ∀ n v, (fixN n v).length = n
 | 0, _ => rfl
 | n + 1, v => by simp [fixN, fixN_len n]
theorem fixN_wf : ∀ n v, Wf (fixN n v)
 | 0, _ => Wf.nil
 | n + 1, v => Wf.cons (by omega) (by omega) (fixN_wf n _)
theorem fixN_val : ∀ (n : Nat) (v : Int), 0 ≤ v → v < 4294967296 ^ n → val (fixN n v) = v
 | 0, v, h0, h1 => by simp at h1; simp [fixN, val]; omega
 | n + 1, v, h0, h1 => by
  rw [pow_succ'] at h1
  simp only [fixN, val, fixN_val n (v / 4294967296) (by omega) (by omega)]
  omega
theorem eq_of_val : ∀ {a b : List Int}, Wf a → Wf b → a.length = b.length → val a = val b → a = b
 | [], [], _, _, _, _ => rfl
 | [], y :: b, _, _, h, _ => by simp at h
 | x :: a, [], _, _, h, _ => by simp at h
 | x :: a, y :: b, ha, hb, h, hv => by
  have h1 := ha.head
  have h2 := hb.head
  have h3 := val_nonneg ha.tail
  have h4 := val_nonneg hb.tail
  simp only [val] at hv
  have e1 : x = y := by omega
  have e2 : val a = val b := by omega
  rw [e1, eq_of_val ha.tail hb.tail (by simpa using h) e2]
theorem val_top2 (V : List Int) (m : Nat) (h : V.length = m + 2) : val V = val (V.take m) + (rd V ((m + 1 : Nat) : Int) * 4294967296 + rd V (m : Int)) * 4294967296 ^ m := by
 have e : V.take (m + 1 + 1) = V := List.take_of_length_le (by omega)
 have h1 := val_take_succ' V (m + 1)
 have h2 := val_take_succ' V m
 rw [e, h2, pow_succ'] at h1
 rw [h1]
 grind
theorem val_top3 (U : List Int) (m : Nat) (h : U.length = m + 3) : val U = val (U.take m) + ((rd U ((m + 2 : Nat) : Int) * 4294967296 + rd U ((m + 1 : Nat) : Int)) * 4294967296 + rd U (m : Int)) * 4294967296 ^ m := by
 have e : U.take (m + 2 + 1) = U := List.take_of_length_le (by omega)
 have h0 := val_take_succ' U (m + 2)
 have h1 := val_take_succ' U (m + 1)
 have h2 := val_take_succ' U m
 rw [show m + 1 + 1 = m + 2 from rfl] at h1
 rw [e, h1, h2, show m + 2 = m + 1 + 1 from rfl, pow_succ', pow_succ'] at h0
 rw [h0]
 grind
theorem take_lt {l : List Int} (hw : Wf l) (m : Nat) (h : m ≤ l.length) : 0 ≤ val (l.take m) ∧ val (l.take m) < 4294967296 ^ m := by
 have h1 := val_lt (hw.take m)
 rw [List.length_take, Nat.min_eq_left h] at h1
 exact ⟨val_nonneg (hw.take m), h1⟩
theorem kn_of (U V : List Int) (m : Nat) (hU : Wf U) (hV : Wf V) (hn : V.length = m + 2) (hu : U.length = m + 3) (htop : 2147483648 ≤ rd V ((m + 1 : Nat) : Int)) (hlt : val U < 4294967296 * val V) :
  Kn (val U) (val V) (val (V.take m)) (val (U.take m)) (4294967296 ^ m) (rd V ((m + 1 : Nat) : Int)) (rd V (m : Int)) (rd U ((m + 2 : Nat) : Int) * 4294967296 + rd U ((m + 1 : Nat) : Int)) (rd U (m : Int)) (val U / val V) := by
 have hW := take_lt hV m (by omega)
 have hX := take_lt hU m (by omega)
 have e1 := val_top2 V m hn
 have e2 := val_top3 U m hu
 have hM := pow_pos' m
 have b1 := rd_wf' hV (m + 1)
 have b2 := rd_wf' hV m
 have b3 := rd_wf' hU (m + 2)
 have b4 := rd_wf' hU (m + 1)
 have b5 := rd_wf' hU m
 have hVpos : 0 < val V := by
  have : 0 < (rd V ((m + 1 : Nat) : Int) * 4294967296 + rd V (m : Int)) * 4294967296 ^ m := Int.mul_pos (by omega) hM
  omega
 have hU0 := val_nonneg hU
 refine ⟨hM, e1, hW, e2, hX, ⟨Int.ediv_nonneg hU0 (by omega), Int.ediv_lt_of_lt_mul hVpos hlt⟩, Int.ediv_mul_le _ (by omega), Int.lt_ediv_add_one_mul_self _ hVpos, ⟨htop, b1.2⟩, b2, b5, by omega, ?_⟩
 rw [e1, e2] at hlt
 generalize rd V ((m + 1 : Nat) : Int) = v1 at *
 generalize rd V (m : Int) = v2 at *
 generalize rd U ((m + 2 : Nat) : Int) = u0 at *
 generalize rd U ((m + 1 : Nat) : Int) = u1 at *
 generalize rd U (m : Int) = u2 at *
 generalize val (V.take m) = W at *
 generalize val (U.take m) = X at *
 generalize (4294967296 : Int) ^ m = M at *
 have h1 : 4294967296 * (W + (v1 * 4294967296 + v2) * M) < 4294967296 * ((v1 * 4294967296 + v2 + 1) * M) := by
  have : (v1 * 4294967296 + v2 + 1) * M = (v1 * 4294967296 + v2) * M + M := by grind
  omega
 have h2 : ((u0 * 4294967296 + u1) * 4294967296 + u2) * M < (4294967296 * (v1 * 4294967296 + v2 + 1)) * M := by
  have : 4294967296 * (v1 * 4294967296 + v2 + 1) * M = 4294967296 * ((v1 * 4294967296 + v2 + 1) * M) := by grind
  omega
 have h3 := Int.lt_of_mul_lt_mul_right h2 (Int.le_of_lt hM)
 omega
theorem digitN (U V : List Int) (m : Nat) (hU : Wf U) (hV : Wf V) (hn : V.length = m + 2) (hu : U.length = m + 3) (hm : m ≤ 35184372088832) (htop : 2147483648 ≤ rd V ((m + 1 : Nat) : Int)) (hlt : val U < 4294967296 * val V) :
  ∃ R, Ev (fun k => nats_digit.f k U V) (val U / val V, R) ∧ Wf R ∧ R.length = m + 3 ∧ val R = val U % val V := by
 have K := kn_of U V m hU hV hn hu htop hlt
 have hVl := val_lt hV
 have hVn := val_nonneg hV
 have hmod := Int.emod_def (val U) (val V)
 have hm0 : 0 ≤ val U % val V := Int.emod_nonneg _ (by have := K.pos; have := K.hM; omega)
 have hm1 : val U % val V < val V := Int.emod_lt_of_pos _ (by have := K.pos; have := K.hM; omega)
 have hpl := pow_le (m := V.length) (n := m + 3) (by omega)
 have hfv := fixN_val (m + 3) (val U % val V) hm0 (by omega)
 refine ⟨fixN (m + 3) (val U % val V), ?_, fixN_wf _ _, fixN_len _ _, hfv⟩
 have hlo := K.lo
 have hhi := K.hi
 have hq := K.hq
 have hnext : ∀ g, 0 ≤ g ∧ g < 4294967296 → val U / val V ≤ g ∧ g ≤ val U / val V + 1 → Ev (fun k => nats_digit.j2 k U V ((m + 2 : Nat) : Int) g) (val U / val V, fixN (m + 3) (val U % val V)) := by
  intro g hg hgq
  refine Ev.step (f := fun k => nats_digit.l1 k U V (V.length : Int) g 0 0 (V.length : Int) ((0 : Nat) : Int)) (fun k => ?_) ?_
  ·simp only [nats_digit.j2]
   rw [hn]
   rfl
  ·refine d1 U V g hV hg (by omega) (by omega) ?_ V.length 0 U 0 0 (by omega) rfl hU (by omega) (by omega) rfl ⟨by simp [val]⟩
   intro O b2 hOw hOl hb2 hv
   have hv' := hv.out
   have hOn := val_nonneg hOw
   have hOlt := val_lt hOw
   rw [hOl] at hOlt
   rcases (show b2 = 0 ∨ b2 = 1 by omega) with rfl | rfl
   ·refine Ev.congr (fun k => if_pos rfl) ?_
    rw [Int.mul_zero, Int.add_zero] at hv'
    have hgle : g = val U / val V := by
     rcases (show g = val U / val V ∨ g = val U / val V + 1 by omega) with h | h
     ·exact h
     ·rw [h] at hv'; omega
    have eO : O = fixN (m + 3) (val U % val V) := by
     refine eq_of_val hOw (fixN_wf _ _) (by rw [fixN_len]; omega) ?_
     rw [hfv, hmod, Int.mul_comm (val V)]
     rw [hgle] at hv'
     omega
    rw [eO, hgle, show val U / val V % 4294967296 = val U / val V from Int.emod_eq_of_lt hq.1 hq.2]
    exact Ev.now _
   ·refine Ev.congr (fun k => if_neg (by decide)) ?_
    rw [Int.mul_one] at hv'
    have hgle : g = val U / val V + 1 := by
     rcases (show g = val U / val V ∨ g = val U / val V + 1 by omega) with h | h
     ·rw [h] at hv'; omega
     ·exact h
    have e2 : (val U / val V + 1) * val V = val U / val V * val V + val V := by grind
    rw [hgle, e2] at hv'
    have hmod2 : val U % val V = val U - val U / val V * val V := by rw [hmod, Int.mul_comm (val V)]
    have hpl2 := pow_le (m := V.length) (n := V.length + 1) (by omega)
    obtain ⟨R, h1, h2, h3, h4⟩ := d2 O V g hV (by omega) (by omega) (by omega) ⟨by
     generalize (4294967296 : Int) ^ (V.length + 1) = P at *
     omega⟩ V.length 0 O 0 (by omega) rfl hOw (by omega) rfl ⟨by simp [val]⟩
    have eR : R = fixN (m + 3) (val U % val V) := by
     refine eq_of_val h2 (fixN_wf _ _) (by rw [fixN_len]; omega) ?_
     rw [hfv, h4.out]
     generalize (4294967296 : Int) ^ (V.length + 1) = P at *
     omega
    rw [eR, show g - 1 = val U / val V from by omega] at h1
    exact h1
 have b1 := rd_wf' hV (m + 1)
 have b3 := rd_wf' hU (m + 2)
 have b4 := rd_wf' hU (m + 1)
 have ht := K.btop
 have hg0 : 0 ≤ (rd U ((m + 2 : Nat) : Int) * 4294967296 + rd U ((m + 1 : Nat) : Int)) / rd V ((m + 1 : Nat) : Int) := Int.ediv_nonneg (by omega) (by omega)
 have hdm := Int.emod_def (rd U ((m + 2 : Nat) : Int) * 4294967296 + rd U ((m + 1 : Nat) : Int)) (rd V ((m + 1 : Nat) : Int))
 have hr0 := Int.emod_nonneg (rd U ((m + 2 : Nat) : Int) * 4294967296 + rd U ((m + 1 : Nat) : Int)) (show rd V ((m + 1 : Nat) : Int) ≠ 0 by omega)
 have hr1 := Int.emod_lt_of_pos (rd U ((m + 2 : Nat) : Int) * 4294967296 + rd U ((m + 1 : Nat) : Int)) (show 0 < rd V ((m + 1 : Nat) : Int) by omega)
 have hqg : val U / val V ≤ (rd U ((m + 2 : Nat) : Int) * 4294967296 + rd U ((m + 1 : Nat) : Int)) / rd V ((m + 1 : Nat) : Int) := by
  refine Int.le_ediv_of_mul_le (by omega) ?_
  have c : val U / val V * val V = val U / val V * val (V.take m) + val U / val V * (rd V ((m + 1 : Nat) : Int) * 4294967296 + rd V (m : Int)) * 4294967296 ^ m := by rw [K.hV]; grind
  have d : 0 ≤ val U / val V * val (V.take m) := Int.mul_nonneg hq.1 K.hW.1
  have f := K.hU
  have g1 := K.hX
  have hM := K.hM
  have h2 : val U / val V * (rd V ((m + 1 : Nat) : Int) * 4294967296 + rd V (m : Int)) * 4294967296 ^ m < ((rd U ((m + 2 : Nat) : Int) * 4294967296 + rd U ((m + 1 : Nat) : Int)) * 4294967296 + rd U (m : Int) + 1) * 4294967296 ^ m := by
   have : ((rd U ((m + 2 : Nat) : Int) * 4294967296 + rd U ((m + 1 : Nat) : Int)) * 4294967296 + rd U (m : Int) + 1) * 4294967296 ^ m = ((rd U ((m + 2 : Nat) : Int) * 4294967296 + rd U ((m + 1 : Nat) : Int)) * 4294967296 + rd U (m : Int)) * 4294967296 ^ m + 4294967296 ^ m := by grind
   omega
  have h3 := Int.lt_of_mul_lt_mul_right h2 (Int.le_of_lt hM)
  have e : val U / val V * (rd V ((m + 1 : Nat) : Int) * 4294967296 + rd V (m : Int)) = val U / val V * rd V ((m + 1 : Nat) : Int) * 4294967296 + val U / val V * rd V (m : Int) := by grind
  have h5 : 0 ≤ val U / val V * rd V (m : Int) := Int.mul_nonneg hq.1 K.bv2.1
  have h6 := K.bu2
  rw [e] at h3
  clear h2 c f hlo hhi hdm
  omega
 have hgt : (rd U ((m + 2 : Nat) : Int) * 4294967296 + rd U ((m + 1 : Nat) : Int)) / rd V ((m + 1 : Nat) : Int) ≤ rd U ((m + 2 : Nat) : Int) * 4294967296 + rd U ((m + 1 : Nat) : Int) := Int.ediv_le_self _ (by omega)
 have hd := d0 U V m hU hV (by omega) (by omega) (by omega) K hnext ((rd U ((m + 2 : Nat) : Int) * 4294967296 + rd U ((m + 1 : Nat) : Int)) / rd V ((m + 1 : Nat) : Int)).toNat _ _ (by omega) ⟨show _ + (rd U ((m + 2 : Nat) : Int) * 4294967296 + rd U ((m + 1 : Nat) : Int)) % rd V ((m + 1 : Nat) : Int) = _ by rw [hdm, Int.mul_comm]; omega⟩ (by omega) hqg
 unfold nats_digit.f
 refine Ev.congr (fun k => ?_) hd
 have e1 : wrap64 ((V.length : Int) - 1) = ((m + 1 : Nat) : Int) := by rw [w64 (by omega) (by omega)]; omega
 have e2 : (V.length : Int) = ((m + 2 : Nat) : Int) := by omega
 rw [e1, e2, if_pos (by omega), if_pos (by omega), if_pos (by omega), if_pos (by omega), if_pos (by omega), u64 (x := rd V ((m + 1 : Nat) : Int)) (by omega) (by omega), if_neg (by omega),
  u64 (x := rd U ((m + 2 : Nat) : Int)) (by omega) (by omega), u64 (x := rd U ((m + 1 : Nat) : Int)) (by omega) (by omega), u64 (x := rd U ((m + 2 : Nat) : Int) * 4294967296) (by omega) (by omega), or_low b3.1 b3.2 b4.1 b4.2, tdiv_nn (by omega), tmod_nn (by omega), u64 (by omega) (by omega)]
theorem pow_split {s : Nat} (h : s ≤ 32) : (2 : Int) ^ s * 2 ^ (32 - s) = 4294967296 := by
 rw [← Int.pow_add, show s + (32 - s) = 32 from by omega]; rfl
theorem pow_bd {s : Nat} (h : s ≤ 32) : (1 : Int) ≤ 2 ^ s ∧ (2 : Int) ^ s ≤ 4294967296 := by
 have h1 : (0 : Int) < 2 ^ s := Int.pow_pos (by decide)
 have h2 : (0 : Int) < 2 ^ (32 - s) := Int.pow_pos (by decide)
 have h3 := pow_split h
 refine ⟨by omega, ?_⟩
 have : (2 : Int) ^ s * 1 ≤ 2 ^ s * 2 ^ (32 - s) := Int.mul_le_mul_of_nonneg_left (by omega) (by omega)
 omega
theorem shl_eq {x : Int} {s : Nat} (hs : s < 32) (hx : 0 ≤ x ∧ x < 4294967296) : shl .u64 (IntKind.u64.wrap x) (s : Int) = x * 2 ^ s := by
 have hp := pow_bd (s := s) (by omega)
 have h1 : x * 2 ^ s ≤ 4294967295 * 4294967296 := Int.mul_le_mul (by omega) hp.2 (by omega) (by decide)
 have h2 : 0 ≤ x * 2 ^ s := Int.mul_nonneg hx.1 (by omega)
 unfold shl
 rw [u64 (x := x) (by omega) (by omega), Int.toNat_natCast, show min s IntKind.u64.bits = s from Nat.min_eq_left (by simp [IntKind.bits]; omega), u64 h2 (by omega)]
theorem or_shifted {x c : Int} {s : Nat} (hs : s < 32) (hx : 0 ≤ x ∧ x < 4294967296) (hc : 0 ≤ c ∧ c < 2 ^ s) : Go.bits .or .u32 c (x * 2 ^ s % 4294967296) = c + x * 2 ^ s % 4294967296 := by
 have hp := pow_bd (s := s) (by omega)
 obtain ⟨m, rfl⟩ := Int.eq_ofNat_of_zero_le hx.1
 obtain ⟨b, rfl⟩ := Int.eq_ofNat_of_zero_le hc.1
 have e1 : ((m : Int) * 2 ^ s) = ((m * 2 ^ s : Nat) : Int) := by simp
 have e2 : m * 2 ^ s % 4294967296 = 2 ^ s * (m % 2 ^ (32 - s)) := by
  have : 2 ^ (32 - s) * 2 ^ s = 4294967296 := by rw [← Nat.pow_add, show 32 - s + s = 32 from by omega]
  rw [← this, Nat.mul_mod_mul_right, Nat.mul_comm]
 have hb : b < 2 ^ s := by have := hc.2; exact_mod_cast this
 have e3 : ((m * 2 ^ s : Nat) : Int) % 4294967296 = ((m * 2 ^ s % 4294967296 : Nat) : Int) := by omega
 rw [e1, e3]
 have hlt : m * 2 ^ s % 4294967296 < 4294967296 := Nat.mod_lt _ (by decide)
 have hb2 : b < 4294967296 := by
  have := hp.2
  omega
 rw [u32_or_nat b _ hb2 hlt, e2, Nat.or_comm, ← Nat.two_pow_add_eq_or_of_lt hb]
 omega
theorem shl_step (k : Nat) (a out : List Int) (s i : Nat) (y z : Int) (hs : s < 32) (ha : Wf a) (hi : i < a.length) (ho : out.length = a.length + 1) (hl : a.length ≤ 35184372088832) (hc : 0 ≤ rd out (i : Int) ∧ rd out (i : Int) < 2 ^ s)
  (hy : Hd (rd out (i : Int) + rd a (i : Int) * 2 ^ s % 4294967296 = y)) (hz : Hd (rd a (i : Int) * 2 ^ s / 4294967296 = z)) (hz2 : 0 ≤ z ∧ z < 4294967296) :
  nats_Shl.l0 (k + 1) 0 (s : Int) out a (a.length : Int) (i : Int) = nats_Shl.l0 k 0 (s : Int) ((out.set i y).set (i + 1) z) a (a.length : Int) ((i + 1 : Nat) : Int) := by
 have hx := rd_wf' ha i
 simp only [nats_Shl.l0]
 rw [Int.zero_add, w64 (x := (i : Int)) (by omega) (by omega), winc (by omega), shl_eq hs hx, or_shifted hs hx hc, hy.out, hz.out, show z % 4294967296 = z from by omega, Int.toNat_natCast, Int.toNat_natCast,
  if_pos (by omega), if_pos (by omega), if_pos (by omega), if_pos (by omega), if_pos (by omega), if_pos (by omega), if_pos (by omega), if_pos (by omega)]
theorem shl_end (k : Nat) (a out : List Int) (s : Int) : nats_Shl.l0 (k + 1) 0 s out a (a.length : Int) (a.length : Int) = (nats_cuto.f k out).bind fun t => some t := by
 simp only [nats_Shl.l0]
 rw [if_neg (by omega)]
theorem shlstep {x c : Int} {s : Nat} (hs : s < 32) (hx : 0 ≤ x ∧ x < 4294967296) (hc : 0 ≤ c ∧ c < 2 ^ s) : ∃ y z, Hd (c + x * 2 ^ s % 4294967296 = y) ∧ Hd (x * 2 ^ s / 4294967296 = z) ∧ (0 ≤ y ∧ y < 4294967296) ∧ (0 ≤ z ∧ z < 2 ^ s) ∧ Hd (y + 4294967296 * z = c + x * 2 ^ s) := by
 have hp := pow_bd (s := s) (by omega)
 have hsp := pow_split (s := s) (by omega)
 have ht : (1 : Int) ≤ 2 ^ (32 - s) := (pow_bd (s := 32 - s) (by omega)).1
 have h2 : 0 ≤ x * 2 ^ s := Int.mul_nonneg hx.1 (by omega)
 have h3 : x * 2 ^ s < 4294967296 * 2 ^ s := Int.mul_lt_mul_of_pos_right hx.2 (by omega)
 refine ⟨_, _, ⟨rfl⟩, ⟨rfl⟩, ?_, ⟨by omega, ?_⟩, ⟨by omega⟩⟩
 ·
  have e : x * 2 ^ s % 4294967296 = (x % 2 ^ (32 - s)) * 2 ^ s := by
   rw [← hsp, Int.mul_comm x, Int.mul_emod_mul_of_pos _ _ (by omega), Int.mul_comm]
  have h4 : x % 2 ^ (32 - s) ≤ 2 ^ (32 - s) - 1 := by have := Int.emod_lt_of_pos x (show (0 : Int) < 2 ^ (32 - s) by omega); omega
  have h5 : (x % 2 ^ (32 - s)) * 2 ^ s ≤ (2 ^ (32 - s) - 1) * 2 ^ s := Int.mul_le_mul_of_nonneg_right h4 (by omega)
  have h6 : ((2 : Int) ^ (32 - s) - 1) * 2 ^ s = 4294967296 - 2 ^ s := by rw [Int.sub_mul, Int.mul_comm, hsp, Int.one_mul]
  omega
 ·exact Int.ediv_lt_of_lt_mul (by decide) (by rw [Int.mul_comm (2 ^ s) 4294967296]; exact h3)
theorem shl_l0 (a : List Int) (s : Nat) (hs : s < 32) (ha : Wf a) (hl : a.length ≤ 35184372088832) : ∀ (d i : Nat) (out : List Int), d + i = a.length → out.length = a.length + 1 → Wf out → 0 ≤ rd out (i : Int) ∧ rd out (i : Int) < 2 ^ s →
  Hd (val (out.take (i + 1)) = val (a.take i) * 2 ^ s) → ∃ r, Ev (fun k => nats_Shl.l0 k 0 (s : Int) out a (a.length : Int) (i : Int)) r ∧ Is r (val a * 2 ^ s)
 | 0, i, out, hi, ho, hw, hc, hv => by
  have ei : i = a.length := by omega
  subst ei
  have h := hv.out
  rw [List.take_length, List.take_of_length_le (by omega)] at h
  exact ⟨trim out, Ev.step (fun k => shl_end k a out s) (Ev.bind (cuto out (by omega)) (Ev.now _)), Is.of hw h⟩
 | d + 1, i, out, hi, ho, hw, hc, hv => by
  obtain ⟨y, z, ey, ez, hy, hz, hyz⟩ := shlstep hs (rd_wf' ha i) hc
  have hp := pow_bd (s := s) (by omega)
  have hw2 : Wf ((out.set i y).set (i + 1) z) := (hw.set _ hy.1 hy.2).set _ hz.1 (by omega)
  have hr2 : rd ((out.set i y).set (i + 1) z) ((i + 1 : Nat) : Int) = z := rd_set_self (by simp; omega) z
  have hv2 : Hd (val (((out.set i y).set (i + 1) z).take (i + 1 + 1)) = val (a.take (i + 1)) * 2 ^ s) := ⟨by
   have h1 := hv.out
   rw [val_take_succ' out] at h1
   rw [val_take_set (by simp; omega), val_take_set (by omega), val_take_succ' a, pow_succ']
   have h2 := hyz.out
   generalize rd out (i : Int) = c at *
   generalize rd a (i : Int) = x at *
   generalize (2 : Int) ^ s = S at *
   generalize (4294967296 : Int) ^ i = P at *
   clear ey ez
   grind⟩
  obtain ⟨r, hr, hI⟩ := shl_l0 a s hs ha hl d (i + 1) _ (by omega) (by simp [ho]) hw2 (by rw [hr2]; exact hz) hv2
  exact ⟨r, Ev.step (fun k => shl_step k a out s i y z hs ha (by omega) ho hl hc ey ez (by omega)) hr, hI⟩
theorem shlN (l : List Int) (s : Nat) (hs : s < 32) (hw : Wf l) (hl : l.length ≤ 35184372088832) : ∃ r, Ev (fun k => nats_Shl.f k l (s : Int)) r ∧ Is r (val l * 2 ^ s) := by
 have ia := Is.of hw rfl
 have la := trim_len l
 have hp := pow_bd (s := s) (by omega)
 unfold nats_Shl.f
 have e0 : wrap64 (Int.tdiv (s : Int) 32) = 0 := by rw [tdiv_nn (by omega), w64 (by omega) (by omega)]; omega
 have e1 : IntKind.u64.wrap (Int.tmod (s : Int) 32) = (s : Int) := by rw [tmod_nn (by omega), u64 (by omega) (by omega)]; omega
 by_cases h : (trim l).length = 0
 ·have e : trim l = [] := List.eq_nil_of_length_eq_zero h
  have ev : val l = 0 := ia.zero_iff.1 e
  refine ⟨[], Ev.bind (cut l (by omega)) (Ev.congr (fun k => if_pos (by omega)) (Ev.now _)), ?_⟩
  rw [ev, Int.zero_mul]
  exact Is.nil
 ·obtain ⟨r, hr, hI⟩ := shl_l0 (trim l) s hs ia.wf (by omega) (trim l).length 0 (List.replicate ((trim l).length + 1) 0) (by omega) (by simp) (Wf.zeros _)
   (by
    have : rd (List.replicate ((trim l).length + 1) (0 : Int)) ((0 : Nat) : Int) = 0 := by rw [rd_nat]; simp [List.getD_eq_getElem?_getD]
    rw [this]; omega)
   ⟨by rw [List.take_replicate, val_zeros]; simp [val]⟩
  rw [ia.val] at hI
  refine ⟨r, Ev.bind (cut l (by omega)) (Ev.congr (fun k => if_neg (by omega)) ?_), hI⟩
  refine Ev.congr (fun k => ?_) hr
  rw [e0, e1, Int.zero_add, w64 (x := ((trim l).length : Int)) (by omega) (by omega), winc (by omega), if_pos (by omega), Int.toNat_natCast, if_pos (by omega)]
  rfl
theorem or_low' {a b : Int} (h0 : 0 ≤ a) (h1 : a < 4294967296) (h2 : 0 ≤ b) (h3 : b < 4294967296) : Go.bits .or .u64 b (a * 4294967296) = a * 4294967296 + b := by
 rw [← or_low h0 h1 h2 h3, u64_or _ _ (by omega) (by omega) (by omega) (by omega), u64_or _ _ (by omega) (by omega) (by omega) (by omega), Nat.or_comm]
theorem shr_eq (x : Int) {s : Nat} (hs : s < 32) : shr .u64 x (s : Int) = x / 2 ^ s := by
 unfold shr
 rw [Int.toNat_natCast, show min s IntKind.u64.bits = s from Nat.min_eq_left (by simp [IntKind.bits]; omega)]
theorem shrstep {x y : Int} {s : Nat} (hs : s < 32) (hx : 0 ≤ x ∧ x < 4294967296) (hy : 0 ≤ y ∧ y < 4294967296) : ∃ z, Hd ((y * 4294967296 + x) / 2 ^ s % 4294967296 = z) ∧ (0 ≤ z ∧ z < 4294967296) ∧ Hd (2 ^ s * z + x % 2 ^ s = x + 4294967296 * (y % 2 ^ s)) := by
 have hp := pow_bd (s := s) (by omega)
 have hsp := pow_split (s := s) (by omega)
 have ht := (pow_bd (s := 32 - s) (by omega)).1
 refine ⟨_, ⟨rfl⟩, by omega, ⟨?_⟩⟩
 generalize (2 : Int) ^ s = S at *
 generalize (2 : Int) ^ (32 - s) = T at *
 have e1 : (y * 4294967296 + x) / S = x / S + T * y := by
  rw [← hsp, show y * (S * T) + x = x + S * (T * y) from by grind, Int.add_mul_ediv_left _ _ (by omega)]
 have hy2 := Int.emod_def y S
 have hx2 := Int.emod_def x S
 have h1 := Int.emod_nonneg y (show S ≠ 0 by omega)
 have h2 := Int.emod_lt_of_pos y (show 0 < S by omega)
 have h3 := Int.emod_nonneg x (show S ≠ 0 by omega)
 have h4 : 0 ≤ x / S := Int.ediv_nonneg hx.1 (by omega)
 have h5 : x / S < T := Int.ediv_lt_of_lt_mul (by omega) (by rw [Int.mul_comm, hsp]; exact hx.2)
 rw [e1]
 generalize y / S = q at *
 generalize y % S = r at *
 generalize x / S = u at *
 generalize x % S = w at *
 have e2 : T * y = 4294967296 * q + T * r := by rw [← hsp]; grind
 have h6 : 0 ≤ T * r := Int.mul_nonneg (by omega) h1
 have h7 : T * r ≤ T * (S - 1) := Int.mul_le_mul_of_nonneg_left (by omega) (by omega)
 have h8 : T * (S - 1) = 4294967296 - T := by rw [Int.mul_sub, Int.mul_comm, hsp, Int.mul_one]
 have e3 : (u + T * y) % 4294967296 = u + T * r := by
  rw [e2]
  generalize T * r = p at *
  clear hsp hx2 hy2 e1 e2
  omega
 rw [e3]
 grind
theorem shr_step (k : Nat) (a out : List Int) (s i : Nat) (z : Int) (hs : s < 32) (ha : Wf a) (hi : i < a.length) (ho : out.length = a.length) (hl : a.length ≤ 35184372088832)
  (hz : Hd ((rd a ((i + 1 : Nat) : Int) * 4294967296 + rd a (i : Int)) / 2 ^ s % 4294967296 = z)) :
  nats_Shr.l0 (k + 1) a 0 (s : Int) out (a.length : Int) (i : Int) = nats_Shr.l0 k a 0 (s : Int) (out.set i z) (a.length : Int) ((i + 1 : Nat) : Int) := by
 have hx := rd_wf' ha i
 have hy := rd_wf' ha (i + 1)
 simp only [nats_Shr.l0]
 rw [Int.zero_add, w64 (x := (i : Int)) (by omega) (by omega), winc (by omega), if_pos (by omega), if_pos (by omega), if_pos (by omega)]
 by_cases h : i + 1 < a.length
 ·rw [if_pos (by omega), if_pos (by omega), if_pos (by omega), if_pos (by omega), if_pos (by omega), u64 (x := rd a (i : Int)) (by omega) (by omega), u64 (x := rd a ((i + 1 : Nat) : Int)) (by omega) (by omega), u64 (x := rd a ((i + 1 : Nat) : Int) * 4294967296) (by omega) (by omega), or_low' hy.1 hy.2 hx.1 hx.2, shr_eq _ hs, hz.out, Int.toNat_natCast]
 ·have e : rd a ((i + 1 : Nat) : Int) = 0 := rd_big (by omega)
  have hz2 := hz.out
  rw [e, Int.zero_mul, Int.zero_add] at hz2
  rw [if_neg (by omega), if_pos (by omega), if_pos (by omega), if_pos (by omega), u64 (x := rd a (i : Int)) (by omega) (by omega), shr_eq _ hs, hz2, Int.toNat_natCast]
theorem shr_end (k : Nat) (a out : List Int) (s : Int) : nats_Shr.l0 (k + 1) a 0 s out (a.length : Int) (a.length : Int) = (nats_cuto.f k out).bind fun t => some t := by
 simp only [nats_Shr.l0]
 rw [if_neg (by omega)]
theorem shr_l0 (a : List Int) (s : Nat) (hs : s < 32) (ha : Wf a) (hl : a.length ≤ 35184372088832) : ∀ (d i : Nat) (out : List Int), d + i = a.length → out.length = a.length → Wf out →
  Hd (2 ^ s * val (out.take i) + rd a ((0 : Nat) : Int) % 2 ^ s = val (a.take i) + 4294967296 ^ i * (rd a (i : Int) % 2 ^ s)) → ∃ r, Ev (fun k => nats_Shr.l0 k a 0 (s : Int) out (a.length : Int) (i : Int)) r ∧ Is r (val a / 2 ^ s)
 | 0, i, out, hi, ho, hw, hv => by
  have ei : i = a.length := by omega
  subst ei
  have h := hv.out
  have hp := pow_bd (s := s) (by omega)
  have hz : rd a (a.length : Int) = 0 := rd_big (Nat.le_refl _)
  rw [List.take_length, List.take_of_length_le (by omega), hz, Int.zero_emod, Int.mul_zero, Int.add_zero] at h
  refine ⟨trim out, Ev.step (fun k => shr_end k a out s) (Ev.bind (cuto out (by omega)) (Ev.now _)), Is.of hw ?_⟩
  have h3 := Int.emod_nonneg (rd a ((0 : Nat) : Int)) (show (2 : Int) ^ s ≠ 0 by omega)
  have h4 := Int.emod_lt_of_pos (rd a ((0 : Nat) : Int)) (show (0 : Int) < 2 ^ s by omega)
  rw [← h, Int.add_comm, Int.add_mul_ediv_left _ _ (by omega), Int.ediv_eq_zero_of_lt h3 h4, Int.zero_add]
 | d + 1, i, out, hi, ho, hw, hv => by
  obtain ⟨z, ez, hz, hs2⟩ := shrstep hs (rd_wf' ha i) (rd_wf' ha (i + 1))
  have hv2 : Hd (2 ^ s * val ((out.set i z).take (i + 1)) + rd a ((0 : Nat) : Int) % 2 ^ s = val (a.take (i + 1)) + 4294967296 ^ (i + 1) * (rd a ((i + 1 : Nat) : Int) % 2 ^ s)) := ⟨by
   have h1 := hv.out
   rw [val_take_set (by omega), val_take_succ' a, pow_succ']
   have h2 := hs2.out
   generalize rd a ((0 : Nat) : Int) % 2 ^ s = r0 at *
   generalize rd a ((i + 1 : Nat) : Int) % 2 ^ s = r2 at *
   generalize rd a (i : Int) % 2 ^ s = r1 at *
   generalize rd a (i : Int) = x at *
   generalize (2 : Int) ^ s = S at *
   generalize (4294967296 : Int) ^ i = P at *
   clear ez
   grind⟩
  obtain ⟨r, hr, hI⟩ := shr_l0 a s hs ha hl d (i + 1) _ (by omega) (by simp [ho]) (hw.set _ hz.1 hz.2) hv2
  exact ⟨r, Ev.step (fun k => shr_step k a out s i z hs ha (by omega) ho hl ez) hr, hI⟩
theorem shrN (l : List Int) (s : Nat) (hs : s < 32) (hw : Wf l) (hl : l.length ≤ 35184372088832) : ∃ r, Ev (fun k => nats_Shr.f k l (s : Int)) r ∧ Is r (val l / 2 ^ s) := by
 have ia := Is.of hw rfl
 have la := trim_len l
 unfold nats_Shr.f
 have e0 : wrap64 (Int.tdiv (s : Int) 32) = 0 := by rw [tdiv_nn (by omega), w64 (by omega) (by omega)]; omega
 have e1 : IntKind.u64.wrap (Int.tmod (s : Int) 32) = (s : Int) := by rw [tmod_nn (by omega), u64 (by omega) (by omega)]; omega
 rw [e0, e1]
 by_cases h : (trim l).length = 0
 ·have e : trim l = [] := List.eq_nil_of_length_eq_zero h
  have ev : val l = 0 := ia.zero_iff.1 e
  refine ⟨[], Ev.bind (cut l (by omega)) (Ev.congr (fun k => if_pos (by omega)) (Ev.now _)), ?_⟩
  rw [ev, Int.zero_ediv]
  exact Is.nil
 ·obtain ⟨r, hr, hI⟩ := shr_l0 (trim l) s hs ia.wf (by omega) (trim l).length 0 (List.replicate (trim l).length 0) (by omega) (by simp) (Wf.zeros _) ⟨by simp [val]⟩
  rw [ia.val] at hI
  refine ⟨r, Ev.bind (cut l (by omega)) (Ev.congr (fun k => if_neg (by omega)) ?_), hI⟩
  refine Ev.congr (fun k => ?_) hr
  rw [Int.sub_zero, w64 (x := ((trim l).length : Int)) (by omega) (by omega), if_pos (by omega), Int.toNat_natCast, if_pos (by omega)]
  simp only [Option.bind_some, List.length_replicate]
  rfl
theorem wdec {i : Nat} (h : i + 1 ≤ 140737488355328) : wrap64 (((i + 1 : Nat) : Int) - 1) = (i : Int) := by rw [w64 (by omega) (by omega)]; omega
theorem rtrim_l1_step (k : Nat) (l out : List Int) (n i : Nat) (h : i < n) (hn : n ≤ l.length) (ho : out.length < 35184372088832) (hi : i ≤ 70368744177664) :
  r1_Trim.l1 (k + 1) l (n : Int) out (i : Int) = r1_Trim.l1 k l (n : Int) (out ++ [rd l (i : Int)]) ((i + 1 : Nat) : Int) := by
 simp only [r1_Trim.l1]
 rw [if_pos (by omega), if_pos (by omega), if_pos (by omega), if_pos ho, winc (by omega)]
theorem rtrim_l1 (l : List Int) (n : Nat) (hn : n ≤ l.length) (hn2 : n ≤ 35184372088832) : ∀ (d i : Nat), d + i = n → Ev (fun k => r1_Trim.l1 k l (n : Int) (l.take i) (i : Int)) (l.take n)
 | 0, i, hi => by
  have : i = n := by omega
  subst this
  refine Ev.step (f := fun _ => some (l.take i)) (fun k => ?_) (Ev.now _)
  simp only [r1_Trim.l1]
  rw [if_neg (by omega)]
 | d + 1, i, hi => by
  have ih := rtrim_l1 l n hn hn2 d (i + 1) (by omega)
  rw [take_succ (show i < l.length by omega)] at ih
  exact Ev.step (fun k => rtrim_l1_step k l (l.take i) n i (by omega) hn (by rw [List.length_take]; omega) (by omega)) ih
theorem rtrim_l0_zero (k : Nat) (l : List Int) (n : Nat) (h : n < l.length) (hl : l.length ≤ 70368744177664) (h0 : rd l (n : Int) = 0) : r1_Trim.l0 (k + 1) l ((n + 1 : Nat) : Int) = r1_Trim.l0 k l (n : Int) := by
 simp only [r1_Trim.l0]
 rw [wdec (by omega), if_pos (by omega), if_pos (by omega), if_pos (by omega), if_pos h0]
theorem rtrim_l0_ne (k : Nat) (l : List Int) (n : Nat) (h : n < l.length) (hl : l.length ≤ 70368744177664) (h0 : rd l (n : Int) ≠ 0) : r1_Trim.l0 (k + 1) l ((n + 1 : Nat) : Int) = r1_Trim.j1 k l ((n + 1 : Nat) : Int) := by
 simp only [r1_Trim.l0]
 rw [wdec (by omega), if_pos (by omega), if_pos (by omega), if_pos (by omega), if_neg h0]
theorem rtrim_j1 (l : List Int) (n : Nat) (hn : n ≤ l.length) (hn2 : n ≤ 35184372088832) : Ev (fun k => r1_Trim.j1 k l (n : Int)) (l.take n) := by
 have h := rtrim_l1 l n hn hn2 n 0 (by omega)
 refine Ev.step (fun k => ?_) h
 simp only [r1_Trim.j1]
 rfl
theorem rtrim_l0 (l : List Int) (hl : l.length ≤ 70368744177664) : ∀ n : Nat, n ≤ l.length → (trim (l.take n)).length ≤ 35184372088832 → Ev (fun k => r1_Trim.l0 k l (n : Int)) (trim (l.take n))
 | 0, _, _ => by
  have h := rtrim_j1 l 0 (Nat.zero_le _) (by omega)
  refine Ev.step (fun k => ?_) h
  simp only [r1_Trim.l0]
  rw [if_neg (by omega)]
 | n + 1, h, hn2 => by
  by_cases h0 : rd l (n : Int) = 0
  ·rw [trim_take_zero (by omega) h0] at hn2 ⊢
   exact Ev.step (fun k => rtrim_l0_zero k l n (by omega) hl h0) (rtrim_l0 l hl n (by omega) hn2)
  ·rw [trim_take_ne (by omega) h0] at hn2 ⊢
   rw [List.length_take] at hn2
   exact Ev.step (fun k => rtrim_l0_ne k l n (by omega) hl h0) (rtrim_j1 l (n + 1) h (by omega))
theorem rtrim (l : List Int) (hl : l.length ≤ 70368744177664) (ht : (trim l).length ≤ 35184372088832) : Ev (fun k => r1_Trim.f k l) (trim l) := by
 have := rtrim_l0 l hl l.length (Nat.le_refl _) (by rw [List.take_length]; exact ht)
 rwa [List.take_length] at this
theorem rtrim' (l : List Int) (hl : l.length ≤ 35184372088832) : Ev (fun k => r1_Trim.f k l) (trim l) :=
 rtrim l (by omega) (Nat.le_trans (trim_len l) hl)
theorem rsame_step (k : Nat) (a b : List Int) (i : Nat) (h1 : i < a.length) (h2 : i < b.length) (h3 : a.length ≤ 70368744177664) (h : rd a (i : Int) = rd b (i : Int)) : r1_Same.l0 (k + 1) a b (i : Int) = r1_Same.l0 k a b ((i + 1 : Nat) : Int) := by
 simp only [r1_Same.l0]
 rw [if_pos (by omega), if_pos (by omega), if_pos (by omega), if_pos h, winc (by omega)]
theorem rsame_l0 (a : List Int) (hl : a.length ≤ 70368744177664) : ∀ (d i : Nat), d + i = a.length → Ev (fun k => r1_Same.l0 k a a (i : Int)) true
 | 0, i, hi => by
  refine Ev.step (f := fun _ => some true) (fun k => ?_) (Ev.now _)
  simp only [r1_Same.l0]
  rw [if_neg (by omega)]
 | d + 1, i, hi => Ev.step (fun k => rsame_step k a a i (by omega) (by omega) hl rfl) (rsame_l0 a hl d (i + 1) (by omega))
theorem rsame_refl (a : List Int) (hl : a.length ≤ 70368744177664) : Ev (fun k => r1_Same.f k a a) true := by
 unfold r1_Same.f
 refine Ev.congr (fun k => if_pos rfl) (rsame_l0 a hl a.length 0 (by omega))
theorem tmod_eq {x : Int} (h : 0 ≤ x) : Int.tmod x 4294967296 = x % 4294967296 := Int.tmod_eq_emod_of_nonneg h
theorem tdiv_eq {x : Int} (h : 0 ≤ x) : Int.tdiv x 4294967296 = x / 4294967296 := Int.tdiv_eq_ediv_of_nonneg h
theorem wsub1 {i : Nat} (h : i ≤ 140737488355328) : wrap64 ((i : Int) - 1) = (i : Int) - 1 := w64 (by omega) (by omega)
theorem rcmp_same (k : Nat) (a b : List Int) (n : Nat) (h1 : n < a.length) (h2 : n < b.length) (h3 : n ≤ 70368744177664) (h : rd a (n : Int) = rd b (n : Int)) : r1_Cmp.l0 (k + 1) a b (n : Int) = r1_Cmp.l0 k a b ((n : Int) - 1) := by
 simp only [r1_Cmp.l0]
 rw [wsub1 (by omega), if_pos (by omega), if_pos (by omega), if_pos (by omega), if_pos (by omega), h, if_neg (by omega), if_neg (by omega)]
theorem rcmp_diff (k : Nat) (a b : List Int) (n : Nat) (h1 : n < a.length) (h2 : n < b.length) (h : rd a (n : Int) ≠ rd b (n : Int)) : r1_Cmp.l0 (k + 1) a b (n : Int) = some (if rd a (n : Int) < rd b (n : Int) then (-1) else 1) := by
 simp only [r1_Cmp.l0]
 rw [if_pos (by omega), if_pos (by omega), if_pos (by omega), if_pos (by omega)]
 by_cases c : rd a (n : Int) < rd b (n : Int)
 ·rw [if_pos c, if_pos c]
 ·rw [if_neg c, if_neg c, if_pos (by omega)]
theorem sgn_at (a b : List Int) (ha : Wf a) (hb : Wf b) (n : Nat) (h1 : n < a.length) (h2 : n < b.length) (hd : val (a.drop (n + 1)) = val (b.drop (n + 1))) (h0 : rd a (n : Int) ≠ rd b (n : Int)) :
  sgn (val a) (val b) = (if rd a (n : Int) < rd b (n : Int) then (-1) else 1) := by
 have ra := rd_wf ha h1
 have rb := rd_wf hb h2
 have va := val_cut a n (by omega)
 have vb := val_cut b n (by omega)
 rw [val_drop_rd h1] at va
 rw [val_drop_rd h2] at vb
 have la := val_lt (ha.take n)
 have lb := val_lt (hb.take n)
 have na := val_nonneg (ha.take n)
 have nb := val_nonneg (hb.take n)
 rw [List.length_take, Nat.min_eq_left (by omega)] at la lb
 have hp := pow_pos' n
 rw [va, vb, hd]
 generalize val (b.drop (n + 1)) = D at *
 generalize (4294967296 : Int) ^ n = P at *
 generalize rd a (n : Int) = x at *
 generalize rd b (n : Int) = y at *
 unfold sgn
 by_cases hxy : x < y
 ·have : P * (x + 1) ≤ P * y := Int.mul_le_mul_of_nonneg_left (by omega) (Int.le_of_lt hp)
  rw [if_pos hxy, if_pos (by grind)]
 ·have : P * (y + 1) ≤ P * x := Int.mul_le_mul_of_nonneg_left (by omega) (Int.le_of_lt hp)
  rw [if_neg hxy, if_neg (by grind), if_pos (by grind)]
theorem rcmp_l0 (a b : List Int) (ha : Wf a) (hb : Wf b) (hla : a.length ≤ 70368744177664) (he : a.length = b.length) : ∀ n : Nat, n ≤ a.length → val (a.drop n) = val (b.drop n) → Ev (fun k => r1_Cmp.l0 k a b ((n : Int) - 1)) (sgn (val a) (val b))
 | 0, _, hd => by
  refine Ev.step (f := fun _ => some 0) (fun k => ?_) ?_
  ·simp only [r1_Cmp.l0]
   rw [if_neg (by omega)]
  ·rw [List.drop_zero, List.drop_zero] at hd
   have : sgn (val a) (val b) = 0 := by unfold sgn; rw [hd, if_neg (by omega), if_neg (by omega)]
   rw [this]
   exact Ev.now _
 | n + 1, h, hd => by
  have e1 : ((n + 1 : Nat) : Int) - 1 = (n : Int) := by omega
  rw [e1]
  by_cases h0 : rd a (n : Int) = rd b (n : Int)
  ·exact Ev.step (fun k => rcmp_same k a b n (by omega) (by omega) (by omega) h0) (rcmp_l0 a b ha hb hla he n (by omega) (by rw [val_drop_rd (l := a) (by omega), val_drop_rd (l := b) (i := n) (by omega), h0, hd]))
  ·rw [sgn_at a b ha hb n (by omega) (by omega) hd h0]
   exact Ev.step (fun k => rcmp_diff k a b n (by omega) (by omega) h0) (Ev.now _)
theorem sgn_of_len {a b : List Int} {x y : Int} (ha : Is a x) (hb : Is b y) (h : a.length < b.length) : sgn x y = -1 := by
 have := Is.lt_of_len ha hb h
 unfold sgn
 rw [if_pos this]
theorem sgn_of_len' {a b : List Int} {x y : Int} (ha : Is a x) (hb : Is b y) (h : b.length < a.length) : sgn x y = 1 := by
 have := Is.lt_of_len hb ha h
 unfold sgn
 rw [if_neg (by omega), if_pos this]
theorem rcmp (a b : List Int) (ha : Wf a) (hb : Wf b) (hla : a.length ≤ 35184372088832) (hlb : b.length ≤ 35184372088832) : Ev (fun k => r1_Cmp.f k a b) (sgn (val a) (val b)) := by
 have ia := Is.of ha rfl
 have ib := Is.of hb rfl
 have la := trim_len a
 have lb := trim_len b
 unfold r1_Cmp.f
 refine Ev.bind (rtrim' a (by omega)) (Ev.bind (rtrim' b (by omega)) ?_)
 by_cases h1 : (trim a).length < (trim b).length
 ·rw [sgn_of_len ia ib h1]
  exact Ev.congr (fun k => if_pos (by omega)) (Ev.now _)
 ·refine Ev.congr (fun k => if_neg (by omega)) ?_
  by_cases h2 : (trim b).length < (trim a).length
  ·rw [sgn_of_len' ia ib h2]
   exact Ev.congr (fun k => if_pos (by omega)) (Ev.now _)
  ·refine Ev.congr (fun k => if_neg (by omega)) ?_
   have := rcmp_l0 (trim a) (trim b) ia.wf ib.wf (by omega) (by omega) (trim a).length (Nat.le_refl _) (by rw [List.drop_length, show (trim a).length = (trim b).length from by omega, List.drop_length])
   rw [ia.val, ib.val] at this
   rwa [wsub1 (by omega)]
theorem rplus_j1 (k : Nat) (a b out : List Int) (c : Int) (i : Nat) (ha : Wf a) (hb : Wf b) (hc : 0 ≤ c ∧ c ≤ 1) (ho : out.length < 35184372088832) (hi : i ≤ 70368744177664) (h : i < a.length ∨ i < b.length) :
  r1_Plus.j1 (k + 1) a b out c (i : Int) true = r1_Plus.l0 k a b (out ++ [(c + rd a (i : Int) + rd b (i : Int)) % 4294967296]) ((c + rd a (i : Int) + rd b (i : Int)) / 4294967296) ((i + 1 : Nat) : Int) := by
 have hx := rd_wf' ha i
 have hy := rd_wf' hb i
 simp only [r1_Plus.j1]
 rw [if_pos trivial, winc (by omega), if_pos ho, if_pos ho, if_pos ho]
 by_cases h1 : i < a.length
 ·rw [if_pos (by omega), if_pos (by omega)]
  by_cases h2 : i < b.length
  ·rw [if_pos (by omega)]
   generalize rd a (i : Int) = x at *
   generalize rd b (i : Int) = y at *
   rw [u64 (x := x) (by omega) (by omega), u64 (x := y) (by omega) (by omega), u64 (x := c + x) (by omega) (by omega), u64 (x := c + x + y) (by omega) (by omega), tmod_eq (by omega), tdiv_eq (by omega), u64 (x := (c + x + y) / 4294967296) (by omega) (by omega), show (c + x + y) % 4294967296 % 4294967296 = (c + x + y) % 4294967296 from by omega]
  ·rw [if_neg (by omega)]
   have e : rd b (i : Int) = 0 := rd_big (by omega)
   rw [e]
   generalize rd a (i : Int) = x at *
   rw [u64 (x := x) (by omega) (by omega), u64 (x := c + x) (by omega) (by omega), tmod_eq (by omega), tdiv_eq (by omega), u64 (x := (c + x) / 4294967296) (by omega) (by omega), show (c + x) % 4294967296 % 4294967296 = (c + x) % 4294967296 from by omega, Int.add_zero]
 ·rw [if_neg (by omega), if_pos (by omega), if_pos (by omega)]
  have e : rd a (i : Int) = 0 := rd_big (by omega)
  rw [e]
  generalize rd b (i : Int) = x at *
  rw [u64 (x := x) (by omega) (by omega), u64 (x := c + x) (by omega) (by omega), tmod_eq (by omega), tdiv_eq (by omega), u64 (x := (c + x) / 4294967296) (by omega) (by omega), show (c + x) % 4294967296 % 4294967296 = (c + x) % 4294967296 from by omega, Int.add_zero]
theorem rplus_l0 (a b : List Int) (i : Nat) (k : Nat) (out : List Int) (c : Int) (h : i < a.length ∨ i < b.length) : r1_Plus.l0 (k + 1) a b out c (i : Int) = r1_Plus.j1 k a b out c (i : Int) true := by
 simp only [r1_Plus.l0]
 by_cases h1 : i < a.length
 ·rw [if_pos (by omega)]
 ·rw [if_neg (by omega), decide_eq_true (by omega)]
theorem rplus_l0_end (a b : List Int) (i : Nat) (k : Nat) (out : List Int) (c : Int) (h1 : a.length ≤ i) (h2 : b.length ≤ i) : r1_Plus.l0 (k + 1) a b out c (i : Int) = r1_Plus.j1 k a b out c (i : Int) false := by
 simp only [r1_Plus.l0]
 rw [if_neg (by omega), decide_eq_false (by omega)]
theorem rplus_j1_end (a b : List Int) (i : Nat) (k : Nat) (out : List Int) (c : Int) (ho : out.length < 35184372088832) (hc : 0 ≤ c ∧ c ≤ 1) : r1_Plus.j1 (k + 1) a b out c (i : Int) false = (r1_Trim.f k (out ++ [c])).bind fun t => some t := by
 simp only [r1_Plus.j1]
 rw [if_neg (by decide), if_pos ho, show c % 4294967296 = c from by omega]
theorem addstep {x y c : Int} (hx : 0 ≤ x ∧ x < 4294967296) (hy : 0 ≤ y ∧ y < 4294967296) (hc : 0 ≤ c ∧ c ≤ 1) : ∃ s c2, Hd ((c + x + y) % 4294967296 = s) ∧ Hd ((c + x + y) / 4294967296 = c2) ∧ (0 ≤ s ∧ s < 4294967296) ∧ (0 ≤ c2 ∧ c2 ≤ 1) ∧ s + 4294967296 * c2 = x + y + c :=
 ⟨_, _, ⟨rfl⟩, ⟨rfl⟩, by omega, by omega, by omega⟩
theorem rplus_go (a b : List Int) (ha : Wf a) (hb : Wf b) (hl : a.length < 35184372088831) (hlb : b.length < 35184372088831) : ∀ (d i : Nat) (out : List Int) (c : Int), a.length + b.length ≤ d + i → (i ≤ a.length ∨ i ≤ b.length) → out.length = i → Wf out → 0 ≤ c ∧ c ≤ 1 →
  Hd (val out + 4294967296 ^ i * c = val (a.take i) + val (b.take i)) → ∃ r, Ev (fun k => r1_Plus.l0 k a b out c (i : Int)) r ∧ Is r (val a + val b)
 | d, i, out, c, hi, hi2, ho, hw, hc, hv => by
  by_cases hin : i < a.length ∨ i < b.length
  ·match d with
   | 0 => omega
   | d + 1 =>
    obtain ⟨s, c2, es, ec, hs0, hc2, hs⟩ := addstep (rd_wf' ha i) (rd_wf' hb i) hc
    have hv2 : Hd (val (out ++ [s]) + 4294967296 ^ (i + 1) * c2 = val (a.take (i + 1)) + val (b.take (i + 1))) := ⟨by
     replace hv := hv.out
     rw [val_snoc, ho, pow_succ', val_take_succ' a, val_take_succ' b]
     generalize (4294967296 : Int) ^ i = P at *
     generalize rd a (i : Int) = x at *
     generalize rd b (i : Int) = y at *
     clear es ec
     grind⟩
    clear hv hs
    obtain ⟨r, hr, hI⟩ := rplus_go a b ha hb hl hlb d (i + 1) (out ++ [s]) c2 (by omega) (by omega) (by simp [ho]) (hw.append (Wf.one hs0.1 hs0.2)) hc2 hv2
    refine ⟨r, ?_, hI⟩
    clear hv2 hI
    refine Ev.step (fun k => rplus_l0 a b i k out c hin) (Ev.step (fun k => rplus_j1 k a b out c i ha hb hc (by omega) (by omega) hin) ?_)
    rw [es.out, ec.out]
    exact hr
  ·have e1 : a.take i = a := List.take_of_length_le (by omega)
   have e2 : b.take i = b := List.take_of_length_le (by omega)
   refine ⟨trim (out ++ [c]), ?_, Is.of (hw.append (Wf.one hc.1 (by omega))) (by rw [val_snoc, ho]; replace hv := hv.out; rw [e1, e2] at hv; exact hv)⟩
   clear hv
   exact Ev.step (fun k => rplus_l0_end a b i k out c (by omega) (by omega)) (Ev.step (fun k => rplus_j1_end a b i k out c (by omega) hc) (Ev.bind (rtrim' (out ++ [c]) (by simp; omega)) (Ev.now _)))
theorem plus (a b : List Int) (ha : Wf a) (hb : Wf b) (hl : a.length < 35184372088831) (hlb : b.length < 35184372088831) : ∃ r, Ev (fun k => r1_Plus.f k a b) r ∧ Is r (val a + val b) := by
 obtain ⟨r, hr, hI⟩ := rplus_go a b ha hb hl hlb (a.length + b.length) 0 [] 0 (by omega) (by omega) rfl Wf.nil (by omega) ⟨by simp [val]⟩
 exact ⟨r, hr, hI⟩
theorem substep {x y c : Int} (hx : 0 ≤ x ∧ x < 4294967296) (hy : 0 ≤ y ∧ y < 4294967296) (hc : 0 ≤ c ∧ c ≤ 1) : ∃ s c2, Hd ((x - c - y < 0 ∧ x - c - y + 4294967296 = s ∧ c2 = 1) ∨ (¬ x - c - y < 0 ∧ x - c - y = s ∧ c2 = 0)) ∧ (0 ≤ s ∧ s < 4294967296) ∧ (0 ≤ c2 ∧ c2 ≤ 1) ∧ s + y + c = x + 4294967296 * c2 := by
 by_cases h : x - c - y < 0
 ·exact ⟨_, _, ⟨.inl ⟨h, rfl, rfl⟩⟩, by omega, by omega, by omega⟩
 ·exact ⟨_, _, ⟨.inr ⟨h, rfl, rfl⟩⟩, by omega, by omega, by omega⟩
theorem rminus_step (k : Nat) (O b : List Int) (c s c2 : Int) (i : Nat) (hO : Wf O) (hb : Wf b) (hc : 0 ≤ c ∧ c ≤ 1) (hi : i < O.length) (hl : O.length ≤ 70368744177664)
  (h : Hd ((rd O (i : Int) - c - rd b (i : Int) < 0 ∧ rd O (i : Int) - c - rd b (i : Int) + 4294967296 = s ∧ c2 = 1) ∨ (¬ rd O (i : Int) - c - rd b (i : Int) < 0 ∧ rd O (i : Int) - c - rd b (i : Int) = s ∧ c2 = 0))) (hs : 0 ≤ s ∧ s < 4294967296) :
  r1_Minus.l0 (k + 1) O b c (i : Int) = r1_Minus.l0 k (O.set i s) b c2 ((i + 1 : Nat) : Int) := by
 have hx := rd_wf' hO i
 have hy := rd_wf' hb i
 simp only [r1_Minus.l0]
 rw [winc (by omega), Int.toNat_natCast, if_pos (by omega), if_pos (by omega)]
 have ey : ¬ i < b.length → rd b (i : Int) = 0 := fun hn => rd_big (by omega)
 replace h := h.out
 generalize rd O (i : Int) = x at *
 generalize rd b (i : Int) = y at *
 rw [w64 (x := x) (by omega) (by omega), w64 (x := y) (by omega) (by omega), w64 (x := x - c) (by omega) (by omega), w64 (x := x - c - y) (by omega) (by omega)]
 by_cases h2 : i < b.length
 ·rw [if_pos (by omega)]
  rcases h with ⟨h3, h4, h5⟩ | ⟨h3, h4, h5⟩
  ·rw [if_pos h3, w64 (x := x - c - y + 4294967296) (by omega) (by omega), h4, h5, show s % 4294967296 = s from by omega]
  ·rw [if_neg h3, h4, h5, show s % 4294967296 = s from by omega]
 ·rw [if_neg (by omega)]
  have e := ey h2
  subst e
  rw [Int.sub_zero] at h
  rcases h with ⟨h3, h4, h5⟩ | ⟨h3, h4, h5⟩
  ·rw [if_pos h3, w64 (x := x - c + 4294967296) (by omega) (by omega), h4, h5, show s % 4294967296 = s from by omega]
  ·rw [if_neg h3, h4, h5, show s % 4294967296 = s from by omega]
theorem rminus_end (k : Nat) (O b : List Int) (c : Int) : r1_Minus.l0 (k + 1) O b c (O.length : Int) = (r1_Trim.f k O).bind fun t => some t := by
 simp only [r1_Minus.l0]
 rw [if_neg (by omega)]
theorem rminus_l0 (a b : List Int) (ha : Wf a) (hb : Wf b) (hl : a.length ≤ 35184372088832) (hba : b.length ≤ a.length) (hle : val b ≤ val a) : ∀ (d i : Nat) (O : List Int) (c : Int), d + i = a.length → O.length = a.length → Wf O → 0 ≤ c ∧ c ≤ 1 → O.drop i = a.drop i →
  Hd (val (O.take i) + val (b.take i) = val (a.take i) + 4294967296 ^ i * c) → ∃ r, Ev (fun k => r1_Minus.l0 k O b c (i : Int)) r ∧ Is r (val a - val b)
 | 0, i, O, c, hi, ho, hw, hc, hd, hv => by
  have e1 : a.take i = a := List.take_of_length_le (by omega)
  have e2 : b.take i = b := List.take_of_length_le (by omega)
  have e3 : O.take i = O := List.take_of_length_le (by omega)
  have h2 : c = 0 := by
   have h1 := val_lt hw
   replace hv := hv.out
   rw [e1, e2, e3] at hv
   rcases Int.lt_or_le 0 c with h | h
   ·have : c = 1 := by omega
    subst this
    rw [ho, show a.length = i from by omega] at h1
    rw [Int.mul_one] at hv
    generalize (4294967296 : Int) ^ i = P at *
    omega
   ·omega
  subst h2
  refine ⟨trim O, ?_, Is.of hw (by replace hv := hv.out; rw [e1, e2, e3, Int.mul_zero] at hv; omega)⟩
  clear hv
  rw [show i = O.length from by omega]
  exact Ev.step (fun k => rminus_end k O b 0) (Ev.bind (rtrim' O (by omega)) (Ev.now _))
 | d + 1, i, O, c, hi, ho, hw, hc, hd, hv => by
  obtain ⟨s, c2, h, hs0, hc2, hs⟩ := substep (rd_wf' hw i) (rd_wf' hb i) hc
  have hrd : rd O (i : Int) = rd a (i : Int) := by
   have h1 := rd_drop O i 0
   have h2 := rd_drop a i 0
   rw [hd] at h1
   rw [h1] at h2
   simpa using h2
  have hv2 : Hd (val ((O.set i s).take (i + 1)) + val (b.take (i + 1)) = val (a.take (i + 1)) + 4294967296 ^ (i + 1) * c2) := ⟨by
   replace hv := hv.out
   rw [val_take_set (by omega), pow_succ', val_take_succ' a, val_take_succ' b, ← hrd]
   generalize (4294967296 : Int) ^ i = P at *
   generalize rd O (i : Int) = x at *
   generalize rd b (i : Int) = y at *
   clear h hrd
   grind⟩
  clear hv hs hrd
  obtain ⟨r, hr, hI⟩ := rminus_l0 a b ha hb hl hba hle d (i + 1) (O.set i s) c2 (by omega) (by simp [ho]) (hw.set _ hs0.1 hs0.2) hc2
   (by
    rw [drop_set_lt (by omega)]
    have := congrArg (List.drop 1) hd
    rwa [List.drop_drop, List.drop_drop] at this) hv2
  exact ⟨r, Ev.step (fun k => rminus_step k O b c s c2 i hw hb hc (by omega) (by omega) h hs0) hr, hI⟩
theorem minus (a b : List Int) (ha : Wf a) (hb : Wf b) (hl : a.length ≤ 35184372088832) (hlb : b.length ≤ 35184372088832) (hle : val b ≤ val a) : ∃ r, Ev (fun k => r1_Minus.f k a b) r ∧ Is r (val a - val b) := by
 have ia := Is.of ha rfl
 have ib := Is.of hb rfl
 have la := trim_len a
 have lb := trim_len b
 have hba : (trim b).length ≤ (trim a).length := by
  rcases Nat.lt_or_ge (trim a).length (trim b).length with h | h
  ·have := Is.lt_of_len ia ib h
   omega
  ·exact h
 obtain ⟨r, hr, hI⟩ := rminus_l0 (trim a) (trim b) ia.wf ib.wf (by omega) hba (by rw [ia.val, ib.val]; exact hle) (trim a).length 0 (trim a) 0 (by omega) rfl ia.wf (by omega) rfl ⟨by simp [val]⟩
 rw [ia.val, ib.val] at hI
 refine ⟨r, ?_, hI⟩
 unfold r1_Minus.f
 exact Ev.bind (rtrim' a (by omega)) (Ev.bind (rtrim' b (by omega)) hr)
theorem sgn_neg {x y : Int} : sgn x y < 0 ↔ x < y := by
 unfold sgn
 split
 ·simp [*]
 ·split <;> simp [*]
def dig (v : Nat) : List Int := if h : v = 0 then [] else (48 + ((v % 10 : Nat) : Int)) :: dig (v / 10)
termination_by v
decreasing_by omega
theorem dig_zero : dig 0 = [] := by unfold dig; rfl
def chunk : Nat → Int → List Int
 | 0, _ => []
 | n + 1, r => (48 + r % 10) :: chunk n (r / 10)
theorem chunk_len : ∀ n r, (chunk n r).length = n
 | 0, _ => rfl
 | n + 1, r => by simp [chunk, chunk_len n]
theorem ext_rd {a b : List Int} (hl : a.length = b.length) (h : ∀ t, t < a.length → rd a (t : Int) = rd b (t : Int)) : a = b := by
 apply List.ext_getElem hl
 intro t h1 h2
 have := h t h1
 rw [rd_of h1, rd_of h2] at this
 exact this
theorem rd_snoc (m : List Int) (x : Int) : rd (m ++ [x]) (m.length : Int) = x := by
 rw [rd_of (by simp)]; simp
theorem rshlstep {x c : Int} {s : Nat} (hs : s < 32) (hx : 0 ≤ x ∧ x < 4294967296) (hc : 0 ≤ c ∧ c < 2 ^ s) : ∃ y z, Hd ((x * 2 ^ s + c) % 4294967296 = y) ∧ Hd ((x * 2 ^ s + c) / 4294967296 = z) ∧ (0 ≤ y ∧ y < 4294967296) ∧ (0 ≤ z ∧ z < 2 ^ s) ∧ Hd (y + 4294967296 * z = x * 2 ^ s + c) ∧ (0 ≤ x * 2 ^ s + c ∧ x * 2 ^ s + c < 18446744073709551616) := by
 have hp := pow_bd (s := s) (by omega)
 have h2 : 0 ≤ x * 2 ^ s := Int.mul_nonneg hx.1 (by omega)
 have h3 : (x + 1) * 2 ^ s ≤ 4294967296 * 2 ^ s := Int.mul_le_mul_of_nonneg_right (by omega) (by omega)
 rw [Int.add_mul, Int.one_mul] at h3
 refine ⟨_, _, ⟨rfl⟩, ⟨rfl⟩, by omega, ⟨by omega, ?_⟩, ⟨by omega⟩, by omega⟩
 exact Int.ediv_lt_of_lt_mul (by decide) (by rw [Int.mul_comm (2 ^ s) 4294967296]; omega)
theorem rshl_step (k : Nat) (l out : List Int) (n c y z : Int) (s i : Nat) (hs : s < 32) (hl : Wf l) (hi : i < l.length) (hlen : l.length ≤ 70368744177664) (hn : Hd (IntKind.u64.wrap (Int.tmod n 32) = (s : Int))) (ho : out.length < 35184372088832)
  (ey : Hd ((rd l (i : Int) * 2 ^ s + c) % 4294967296 = y)) (ez : Hd ((rd l (i : Int) * 2 ^ s + c) / 4294967296 = z)) (ht : 0 ≤ rd l (i : Int) * 2 ^ s + c ∧ rd l (i : Int) * 2 ^ s + c < 18446744073709551616) (hy : 0 ≤ y ∧ y < 4294967296) (hz : 0 ≤ z ∧ z < 4294967296) :
  r1_Shl.l0 (k + 1) l n out c (i : Int) = r1_Shl.l0 k l n (out ++ [y]) z ((i + 1 : Nat) : Int) := by
 have hx := rd_wf' hl i
 simp only [r1_Shl.l0]
 rw [hn.out, if_pos (by omega), if_pos (by omega), if_pos (by omega), if_pos ho, shl_eq hs hx, u64 (x := rd l (i : Int) * 2 ^ s + c) ht.1 ht.2, tmod_nn ht.1, tdiv_nn ht.1, ey.out, ez.out, u64 (x := z) (by omega) (by omega), show y % 4294967296 = y from by omega, winc (by omega)]
theorem rshl_end (k : Nat) (l out : List Int) (n c : Int) (ho : out.length < 35184372088832) (hc : 0 ≤ c ∧ c < 4294967296) : r1_Shl.l0 (k + 1) l n out c (l.length : Int) = (r1_Trim.f k (out ++ [c])).bind fun t => some t := by
 simp only [r1_Shl.l0]
 rw [if_neg (by omega), if_pos ho, show c % 4294967296 = c from by omega]
theorem rshl_l0 (l : List Int) (n : Int) (K s : Nat) (hs : s < 32) (hl : Wf l) (hK : K + l.length < 35184372088832) (hn : Hd (IntKind.u64.wrap (Int.tmod n 32) = (s : Int))) : ∀ (d i : Nat) (out : List Int) (c : Int), d + i = l.length → out.length = K + i → Wf out → 0 ≤ c ∧ c < 2 ^ s →
  Hd (val out + 4294967296 ^ (K + i) * c = 4294967296 ^ K * (val (l.take i) * 2 ^ s)) → ∃ r, Ev (fun k => r1_Shl.l0 k l n out c (i : Int)) r ∧ Is r (4294967296 ^ K * (val l * 2 ^ s))
 | 0, i, out, c, hi, ho, hw, hc, hv => by
  have ei : i = l.length := by omega
  subst ei
  have hp := pow_bd (s := s) (by omega)
  have h := hv.out
  rw [List.take_length] at h
  refine ⟨trim (out ++ [c]), Ev.step (fun k => rshl_end k l out n c (by omega) (by omega)) (Ev.bind (rtrim' (out ++ [c]) (by simp; omega)) (Ev.now _)), Is.of (hw.append (Wf.one hc.1 (by omega))) ?_⟩
  rw [val_snoc, ho]
  exact h
 | d + 1, i, out, c, hi, ho, hw, hc, hv => by
  obtain ⟨y, z, ey, ez, hy, hz, hyz, ht⟩ := rshlstep hs (rd_wf' hl i) hc
  have hp := pow_bd (s := s) (by omega)
  have hv2 : Hd (val (out ++ [y]) + 4294967296 ^ (K + (i + 1)) * z = 4294967296 ^ K * (val (l.take (i + 1)) * 2 ^ s)) := ⟨by
   have h1 := hv.out
   have h2 := hyz.out
   rw [val_snoc, ho, show K + (i + 1) = K + i + 1 from rfl, pow_succ', val_take_succ' l]
   have hpp : (4294967296 : Int) ^ (K + i) = 4294967296 ^ K * 4294967296 ^ i := Int.pow_add _ _ _
   rw [hpp] at h1 ⊢
   generalize rd l (i : Int) = x at *
   generalize (2 : Int) ^ s = S at *
   generalize (4294967296 : Int) ^ i = P at *
   generalize (4294967296 : Int) ^ K = Q at *
   clear ey ez hn
   grind⟩
  obtain ⟨r, hr, hI⟩ := rshl_l0 l n K s hs hl hK hn d (i + 1) (out ++ [y]) z (by omega) (by simp [ho]; omega) (hw.append (Wf.one hy.1 hy.2)) hz hv2
  exact ⟨r, Ev.step (fun k => rshl_step k l out n c y z s i hs hl (by omega) (by omega) hn (by omega) ey ez ht hy (by omega)) hr, hI⟩
theorem pow32 (K : Nat) : (4294967296 : Int) ^ K = 2 ^ (32 * K) := by rw [Int.pow_mul]; rfl
theorem rshl (l : List Int) (n : Nat) (hl : Wf l) (hK : n / 32 + l.length < 35184372088832) : ∃ r, Ev (fun k => r1_Shl.f k l (n : Int)) r ∧ Is r (val l * 2 ^ n) := by
 have e0 : wrap64 (Int.tdiv (n : Int) 32) = ((n / 32 : Nat) : Int) := by rw [tdiv_nn (by omega), w64 (by omega) (by omega)]; omega
 have e1 : IntKind.u64.wrap (Int.tmod (n : Int) 32) = ((n % 32 : Nat) : Int) := by rw [tmod_nn (by omega), u64 (by omega) (by omega)]; omega
 have hp := pow_bd (s := n % 32) (by omega)
 obtain ⟨r, hr, hI⟩ := rshl_l0 l (n : Int) (n / 32) (n % 32) (by omega) hl hK ⟨e1⟩ l.length 0 (List.replicate (n / 32) 0) 0 (by omega) (by simp) (Wf.zeros _) (by omega) ⟨by rw [val_zeros]; simp [val]⟩
 have e : (4294967296 : Int) ^ (n / 32) * (val l * 2 ^ (n % 32)) = val l * 2 ^ n := by
  rw [pow32, show val l * 2 ^ (n % 32) = 2 ^ (n % 32) * val l from Int.mul_comm _ _, ← Int.mul_assoc, ← Int.pow_add, show 32 * (n / 32) + n % 32 = n from by omega, Int.mul_comm]
 rw [e] at hI
 refine ⟨r, ?_, hI⟩
 unfold r1_Shl.f
 refine Ev.congr (fun k => ?_) hr
 rw [e0, if_pos (by omega), Int.toNat_natCast, if_pos (by omega)]
 rfl
theorem copy2 (a : Bool) (n d : List Int) (hn : n.length < 35184372088832) (hd : d.length < 35184372088832) : r2_Copy.f a n d = some (a, n, d) := by
 unfold r2_Copy.f
 simp only [Option.bind_some, List.length_nil, List.nil_append]
 rw [if_pos (by omega), if_pos (by omega)]
theorem own2 (a : Bool) (n d : List Int) (hn : n.length < 35184372088832) (hd : d.length < 35184372088832) : w2_own.f a n d = some (a, n, d) := by
 unfold w2_own.f
 rw [copy2 a n d hn hd]
 rfl
end Go.Proofs.Ytgffficaoioljaa.PlN
end
