import Derived.Test.YtgffficaoioljaaCd9
import Derived.Test.YtgffficaoioljaaCd10
import Derived.Test.YtgffficaoioljaaCd11
import Derived.Laws.BytesArg
section
namespace Go.Proofs.Ytgffficaoioljaa.PlN
open Go.RowKit Go.Proofs.Ytgffficaoioljaa.P Go.Proofs.Ytgffficaoioljaa.Pl Go.Proofs.Ytgffficaoioljaa.PlA Go.Proofs.YtgffficaoioljaaW.PrintWords Go.Proofs.YtgffficaoioljaaW.PrintLast Go.Proofs.YtgffficaoioljaaW.PrintMore
theorem trim_take_zero {l : List Int} {n : Nat} (h : n < l.length) (h0 : rd l (n : Int) = 0) : trim (l.take (n + 1)) = trim (l.take n) := by
  rw [take_succ h, h0, trim_zero]
theorem trim_take_ne {l : List Int} {n : Nat} (h : n < l.length) (h0 : rd l (n : Int) ≠ 0) : trim (l.take (n + 1)) = l.take (n + 1) := by
  rw [take_succ h, trim_snoc _ _ h0]
theorem cut_l0 (l : List Int) (hl : l.length ≤ 9223372036854775807) : ∀ n : Nat, n ≤ l.length → Ev (fun k => nats_cut.l0 k l (n : Int)) (trim (l.take n))
  | 0, _ => by
    refine Ev.step (f := fun _ => some []) (fun k => ?_) (Ev.now _)
    simp only [nats_cut.l0]
    rw [if_neg (by omega), if_pos (by omega), if_pos (by omega)]
    rfl
  | n + 1, h => by
    have hw : wrap64 (((n + 1 : Nat) : Int) - 1) = (n : Int) := by rw [w64 (by omega) (by omega)]; omega
    by_cases h0 : rd l (n : Int) = 0
    · rw [trim_take_zero (by omega) h0]
      refine Ev.step (fun k => ?_) (cut_l0 l hl n (by omega))
      simp only [nats_cut.l0]
      rw [hw, if_pos (by omega), if_pos (by omega), if_pos (by omega), if_pos h0]
    · rw [trim_take_ne (by omega) h0]
      refine Ev.step (f := fun _ => some (l.take (n + 1))) (fun k => ?_) (Ev.now _)
      simp only [nats_cut.l0]
      rw [hw, if_pos (by omega), if_pos (by omega), if_pos (by omega), if_neg h0, if_pos (by omega), if_pos (by omega), Int.toNat_natCast]
theorem cut (l : List Int) (hl : l.length ≤ 9223372036854775807) : Ev (fun k => nats_cut.f k l) (trim l) := by
  have := cut_l0 l hl l.length (Nat.le_refl _)
  rwa [List.take_length] at this
theorem cuto_l0 (l : List Int) (hl : l.length ≤ 9223372036854775807) : ∀ n : Nat, n ≤ l.length → Ev (fun k => nats_cuto.l0 k l (n : Int)) (trim (l.take n))
  | 0, _ => by
    refine Ev.step (f := fun _ => some []) (fun k => ?_) (Ev.now _)
    simp only [nats_cuto.l0]
    rw [if_neg (by omega), if_pos (by omega), if_pos (by omega)]
    rfl
  | n + 1, h => by
    have hw : wrap64 (((n + 1 : Nat) : Int) - 1) = (n : Int) := by rw [w64 (by omega) (by omega)]; omega
    by_cases h0 : rd l (n : Int) = 0
    · rw [trim_take_zero (by omega) h0]
      refine Ev.step (fun k => ?_) (cuto_l0 l hl n (by omega))
      simp only [nats_cuto.l0]
      rw [hw, if_pos (by omega), if_pos (by omega), if_pos (by omega), if_pos h0]
    · rw [trim_take_ne (by omega) h0]
      refine Ev.step (f := fun _ => some (l.take (n + 1))) (fun k => ?_) (Ev.now _)
      simp only [nats_cuto.l0]
      rw [hw, if_pos (by omega), if_pos (by omega), if_pos (by omega), if_neg h0, if_pos (by omega), if_pos (by omega), Int.toNat_natCast]
theorem cuto (l : List Int) (hl : l.length ≤ 9223372036854775807) : Ev (fun k => nats_cuto.f k l) (trim l) := by
  have := cuto_l0 l hl l.length (Nat.le_refl _)
  rwa [List.take_length] at this
theorem trim_l0 (l : List Int) (hl : l.length < 35184372088832) : ∀ n : Nat, n ≤ l.length → Ev (fun k => nats_Trim.l0 k l (n : Int)) (trim (l.take n))
  | 0, _ => by
    refine Ev.step (f := fun _ => some []) (fun k => ?_) (Ev.now _)
    simp only [nats_Trim.l0]
    rw [if_neg (by omega), if_pos (by omega), if_pos (by omega), if_pos (by simp)]
    rfl
  | n + 1, h => by
    have hw : wrap64 (((n + 1 : Nat) : Int) - 1) = (n : Int) := by rw [w64 (by omega) (by omega)]; omega
    by_cases h0 : rd l (n : Int) = 0
    · rw [trim_take_zero (by omega) h0]
      refine Ev.step (fun k => ?_) (trim_l0 l hl n (by omega))
      simp only [nats_Trim.l0]
      rw [hw, if_pos (by omega), if_pos (by omega), if_pos (by omega), if_pos h0]
    · rw [trim_take_ne (by omega) h0]
      refine Ev.step (f := fun _ => some (l.take (n + 1))) (fun k => ?_) (Ev.now _)
      simp only [nats_Trim.l0]
      rw [hw, if_pos (by omega), if_pos (by omega), if_pos (by omega), if_neg h0, if_pos (by omega), if_pos (by omega), Int.toNat_natCast, if_pos (by rw [List.length_take]; simp; omega), List.nil_append]
theorem natsTrim (l : List Int) (hl : l.length < 35184372088832) : Ev (fun k => nats_Trim.f k l) (trim l) := by
  have := trim_l0 l hl l.length (Nat.le_refl _)
  rwa [List.take_length] at this
def sgn (x y : Int) : Int := if x < y then -1 else if y < x then 1 else 0
end Go.Proofs.Ytgffficaoioljaa.PlN
end
section
namespace Go.Proofs.Ytgffficaoioljaa.PlN
open Go.RowKit Go.Proofs.Ytgffficaoioljaa.P Go.Proofs.Ytgffficaoioljaa.Pl Go.Proofs.Ytgffficaoioljaa.PlA Go.Proofs.YtgffficaoioljaaW.PrintWords Go.Proofs.YtgffficaoioljaaW.PrintLast Go.Proofs.YtgffficaoioljaaW.PrintMore
theorem val_take_succ' (l : List Int) (i : Nat) : val (l.take (i + 1)) = val (l.take i) + 4294967296 ^ i * rd l (i : Int) := by
  rcases Nat.lt_or_ge i l.length with h | h
  · exact val_take_succ h
  · rw [val_take_big h, val_take_big (Nat.le_succ_of_le h), rd_big h]; simp
theorem rd_wf' {l : List Int} (hw : Wf l) (i : Nat) : 0 ≤ rd l (i : Int) ∧ rd l (i : Int) < 4294967296 := by
  rcases Nat.lt_or_ge i l.length with h | h
  · exact rd_wf hw h
  · rw [rd_big h]; omega
theorem add32 {x y c : Int} (hx : 0 ≤ x ∧ x < 4294967296) (hy : 0 ≤ y ∧ y < 4294967296) (hc : 0 ≤ c ∧ c ≤ 1) : bits_Add32.f x y c = some ((x + y + c) % 4294967296, (x + y + c) / 4294967296) := by
  unfold bits_Add32.f
  rw [u64 (x := x) (by omega) (by omega), u64 (x := y) (by omega) (by omega), u64 (x := c) (by omega) (by omega), u64 (x := x + y) (by omega) (by omega), u64 (x := x + y + c) (by omega) (by omega)]
  rw [show (x + y + c) / 4294967296 % 4294967296 = (x + y + c) / 4294967296 from by omega]
theorem pow_succ' (n : Nat) : (4294967296 : Int) ^ (n + 1) = 4294967296 ^ n * 4294967296 := Int.pow_succ _ _
theorem add32' {x y c : Int} (hx : 0 ≤ x ∧ x < 4294967296) (hy : 0 ≤ y ∧ y < 4294967296) (hc : 0 ≤ c ∧ c ≤ 1) : ∃ s c2, bits_Add32.f x y c = some (s, c2) ∧ (0 ≤ s ∧ s < 4294967296) ∧ (0 ≤ c2 ∧ c2 ≤ 1) ∧ s + 4294967296 * c2 = x + y + c :=
  ⟨_, _, add32 hx hy hc, by omega, by omega, by omega⟩
theorem add_l0 (a b : List Int) (ha : Wf a) (hb : Wf b) (hl : a.length < 35184372088831) : ∀ (d i : Nat) (out : List Int) (c : Int), d + i = a.length → out.length = i → Wf out → 0 ≤ c ∧ c ≤ 1 → b.length ≤ a.length →
    Hd (val out + 4294967296 ^ i * c = val (a.take i) + val (b.take i)) → ∃ r, Ev (fun k => nats_Add.l0 k a b out c (a.length : Int) (i : Int)) r ∧ Is r (val a + val b)
  | 0, i, out, c, hi, ho, hw, hc, hab, hv => by
    have e1 : a.take i = a := List.take_of_length_le (by omega)
    have e2 : b.take i = b := List.take_of_length_le (by omega)
    refine ⟨trim (out ++ [c]), ?_, Is.of (hw.append (Wf.one hc.1 (by omega))) (by rw [val_snoc, ho]; replace hv := hv.out; rw [e1, e2] at hv; exact hv)⟩
    clear hv
    refine Ev.step (f := fun k => (nats_cuto.f k (out ++ [c])).bind fun t => some t) (fun k => ?_) (Ev.bind (cuto _ (by simp; omega)) (Ev.now _))
    simp only [nats_Add.l0]
    rw [if_neg (by omega), if_pos (by omega)]
  | d + 1, i, out, c, hi, ho, hw, hc, hab, hv => by
    obtain ⟨s, c2, h32, hs0, hc2, hs⟩ := add32' (rd_wf' ha i) (rd_wf' hb i) hc
    have hv2 : Hd (val (out ++ [s]) + 4294967296 ^ (i + 1) * c2 = val (a.take (i + 1)) + val (b.take (i + 1))) := ⟨by
      replace hv := hv.out
      rw [val_snoc, ho, pow_succ', val_take_succ' a, val_take_succ' b]
      generalize (4294967296 : Int) ^ i = P at *
      generalize rd a (i : Int) = x at *
      generalize rd b (i : Int) = y at *
      grind⟩
    clear hv hs
    obtain ⟨r, hr, hI⟩ := add_l0 a b ha hb hl d (i + 1) (out ++ [s]) c2 (by omega) (by simp [ho]) (hw.append (Wf.one hs0.1 hs0.2)) hc2 hab hv2
    refine ⟨r, ?_, hI⟩
    have hw1 : wrap64 ((i : Int) + 1) = ((i + 1 : Nat) : Int) := by rw [w64 (by omega) (by omega)]; omega
    clear hv2 hI ha hb hw
    refine Ev.step (fun k => ?_) hr
    simp only [nats_Add.l0]
    rw [if_pos (by omega)]
    by_cases hib : i < b.length
    · rw [if_pos (by omega), if_pos (by omega), if_pos (by omega), h32]
      simp only [Option.bind_some]
      rw [if_pos (by omega), hw1]
    · have hy0 : rd b (i : Int) = 0 := rd_big (by omega)
      rw [if_neg (by omega), if_pos (by omega), if_pos (by omega)]
      rw [hy0] at h32
      rw [h32]
      simp only [Option.bind_some]
      rw [if_pos (by omega), hw1]
theorem add_j0 (a b : List Int) (ha : Wf a) (hb : Wf b) (hl : a.length < 35184372088831) (hab : b.length ≤ a.length) : ∃ r, Ev (fun k => nats_Add.j0 k a b) r ∧ Is r (val a + val b) := by
  obtain ⟨r, hr, hI⟩ := add_l0 a b ha hb hl a.length 0 [] 0 (by omega) rfl Wf.nil (by omega) hab ⟨by simp [val]⟩
  refine ⟨r, ?_, hI⟩
  refine Ev.step (fun k => ?_) hr
  simp only [nats_Add.j0]
  rw [w64 (by omega) (by omega), if_pos (by omega), if_pos (by omega)]
  rfl
theorem add (a b : List Int) (ha : Wf a) (hb : Wf b) (hl : a.length < 35184372088831) (hlb : b.length < 35184372088831) : ∃ r, Ev (fun k => nats_Add.f k a b) r ∧ Is r (val a + val b) := by
  unfold nats_Add.f
  by_cases h : (a.length : Int) < (b.length : Int)
  · obtain ⟨r, hr, hI⟩ := add_j0 b a hb ha hlb (by omega)
    exact ⟨r, Ev.congr (fun k => if_pos h) hr, by rw [Int.add_comm]; exact hI⟩
  · obtain ⟨r, hr, hI⟩ := add_j0 a b ha hb hl (by omega)
    exact ⟨r, Ev.congr (fun k => if_neg h) hr, hI⟩
end Go.Proofs.Ytgffficaoioljaa.PlN
end
section
namespace Go.Proofs.Ytgffficaoioljaa.PlN
open Go.RowKit Go.Proofs.Ytgffficaoioljaa.P Go.Proofs.Ytgffficaoioljaa.Pl Go.Proofs.Ytgffficaoioljaa.PlA Go.Proofs.YtgffficaoioljaaW.PrintWords Go.Proofs.YtgffficaoioljaaW.PrintLast Go.Proofs.YtgffficaoioljaaW.PrintMore
theorem drop_set_lt {l : List Int} {i n : Nat} (h : i < n) (x : Int) : (l.set i x).drop n = l.drop n := by
  apply List.ext_getElem?
  intro k
  rw [List.getElem?_drop, List.getElem?_drop, List.getElem?_set_ne (by omega)]
theorem winc {i : Nat} (h : i ≤ 140737488355328) : wrap64 ((i : Int) + 1) = ((i + 1 : Nat) : Int) := by rw [w64 (by omega) (by omega)]; omega
end Go.Proofs.Ytgffficaoioljaa.PlN
end
section
namespace Go.Proofs.Ytgffficaoioljaa.PlN
open Go.RowKit Go.Proofs.Ytgffficaoioljaa.P Go.Proofs.Ytgffficaoioljaa.Pl Go.Proofs.Ytgffficaoioljaa.PlA Go.Proofs.YtgffficaoioljaaW.PrintWords Go.Proofs.YtgffficaoioljaaW.PrintLast Go.Proofs.YtgffficaoioljaaW.PrintMore
set_option linter.unusedVariables false
theorem divstep {r x w : Int} (hw : 0 < w) (hr : 0 ≤ r ∧ r < w) (hx : 0 ≤ x ∧ x < 4294967296) : ∃ q r2, Hd ((r * 4294967296 + x) / w = q) ∧ Hd ((r * 4294967296 + x) % w = r2) ∧ (0 ≤ q ∧ q < 4294967296) ∧ (0 ≤ r2 ∧ r2 < w) ∧ Hd (q * w + r2 = r * 4294967296 + x) := by
  have h0 : 0 ≤ r * 4294967296 + x := by omega
  have h1 : r * 4294967296 + x < 4294967296 * w := by omega
  refine ⟨_, _, ⟨rfl⟩, ⟨rfl⟩, ⟨Int.ediv_nonneg h0 (by omega), Int.ediv_lt_of_lt_mul hw h1⟩, ⟨Int.emod_nonneg _ (by omega), Int.emod_lt_of_pos _ hw⟩, ⟨?_⟩⟩
  have := Int.emod_def (r * 4294967296 + x) w
  have e := Int.mul_comm w ((r * 4294967296 + x) / w)
  omega
theorem tmod_nn {x w : Int} (h : 0 ≤ x) : Int.tmod x w = x % w := Int.tmod_eq_emod_of_nonneg h
theorem tdiv_nn {x w : Int} (h : 0 ≤ x) : Int.tdiv x w = x / w := Int.tdiv_eq_ediv_of_nonneg h
theorem word_step (k : Nat) (a out : List Int) (w r q r2 : Int) (n : Nat) (ha : Wf a) (hn : n < a.length) (ho : n < out.length) (hl : a.length ≤ 70368744177664) (hw : 0 < w ∧ w < 4294967296) (hr : 0 ≤ r ∧ r < w)
    (eq : Hd ((r * 4294967296 + rd a (n : Int)) / w = q)) (er : Hd ((r * 4294967296 + rd a (n : Int)) % w = r2)) (hq : 0 ≤ q ∧ q < 4294967296) :
    nats_word.l0 (k + 1) a w out r (n : Int) = nats_word.l0 k a w (out.set n q) r2 ((n : Int) - 1) := by
  have hx := rd_wf' ha n
  simp only [nats_word.l0]
  rw [u64 (x := w) (by omega) (by omega), u64 (x := r * 4294967296) (by omega) (by omega), u64 (x := rd a (n : Int)) (by omega) (by omega), or_low (by omega) (by omega) (by omega) (by omega), tdiv_nn (by omega), tmod_nn (by omega), eq.out, er.out,
    u64 (x := q) (by omega) (by omega), show q % 4294967296 = q from by omega, Int.toNat_natCast, w64 (x := (n : Int) - 1) (by omega) (by omega), if_pos (by omega), if_pos (by omega), if_pos (by omega), if_neg (by omega), if_pos (by omega)]
theorem word_end (k : Nat) (a out : List Int) (w r : Int) (hr : 0 ≤ r ∧ r < 4294967296) : nats_word.l0 (k + 1) a w out r (-1) = (nats_cuto.f k out).bind fun t => some (t, r) := by
  simp only [nats_word.l0]
  rw [if_neg (by omega), show r % 4294967296 = r from by omega]
theorem word_l0 (a : List Int) (w : Int) (ha : Wf a) (hl : a.length ≤ 70368744177664) (hw : 0 < w ∧ w < 4294967296) : ∀ (n : Nat) (out : List Int) (r : Int), n ≤ a.length → out.length = a.length → Wf out → 0 ≤ r ∧ r < w → Hd (val (out.drop n) * w + r = val (a.drop n)) →
    ∃ q r2, Ev (fun k => nats_word.l0 k a w out r ((n : Int) - 1)) (trim q, r2) ∧ Wf q ∧ q.length = a.length ∧ (0 ≤ r2 ∧ r2 < w) ∧ val q * w + r2 = val a
  | 0, out, r, hn, ho, hwf, hr, hv => by
    refine ⟨out, r, ?_, hwf, ho, hr, by simpa using hv.out⟩
    exact Ev.step (fun k => word_end k a out w r (by omega)) (Ev.bind (cuto out (by omega)) (Ev.now _))
  | n + 1, out, r, hn, ho, hwf, hr, hv => by
    obtain ⟨q, r2, eq, er, hq, hr2, hqr⟩ := divstep hw.1 hr (rd_wf' ha n)
    have hv2 : Hd (val ((out.set n q).drop n) * w + r2 = val (a.drop n)) := ⟨by
      rw [val_drop_rd (l := out.set n q) (by simp; omega), val_drop_rd (l := a) (by omega), rd_set_self (by omega), drop_set_lt (by omega)]
      have h1 := hv.out
      have h2 := hqr.out
      clear eq er
      generalize val (out.drop (n + 1)) = Q at *
      generalize val (a.drop (n + 1)) = A at *
      generalize rd a (n : Int) = x at *
      grind⟩
    obtain ⟨q', r', h, h1, h2, h3, h4⟩ := word_l0 a w ha hl hw n (out.set n q) r2 (by omega) (by simp [ho]) (hwf.set _ hq.1 hq.2) hr2 hv2
    refine ⟨q', r', ?_, h1, h2, h3, h4⟩
    rw [show ((n + 1 : Nat) : Int) - 1 = (n : Int) from by omega]
    exact Ev.step (fun k => word_step k a out w r q r2 n ha (by omega) (by omega) hl hw hr eq er hq) h
theorem word (a : List Int) (w : Int) (ha : Wf a) (hl : a.length ≤ 70368744177664) (hw : 0 < w ∧ w < 4294967296) : ∃ q, Ev (fun k => nats_word.f k a w) (q, val a % w) ∧ Is q (val a / w) := by
  obtain ⟨q, r, h, h1, h2, h3, h4⟩ := word_l0 a w ha hl hw a.length (List.replicate a.length 0) 0 (Nat.le_refl _) (by simp) (Wf.zeros _) (by omega) ⟨by simp [val]⟩
  have e1 : val a / w = val q := by
    rw [← h4, Int.add_comm, Int.add_mul_ediv_right _ _ (by omega), Int.ediv_eq_zero_of_lt h3.1 h3.2, Int.zero_add]
  have e2 : val a % w = r := by
    rw [← h4, Int.add_comm, Int.add_mul_emod_self_right, Int.emod_eq_of_lt h3.1 h3.2]
  rw [e2, e1]
  refine ⟨trim q, ?_, Is.of h1 rfl⟩
  unfold nats_word.f
  refine Ev.congr (fun k => ?_) h
  rw [if_pos (by omega), Int.toNat_natCast, if_pos hl, w64 (by omega) (by omega)]
end Go.Proofs.Ytgffficaoioljaa.PlN
end
section
namespace Go.Proofs.Ytgffficaoioljaa.PlN
open Go.RowKit Go.Proofs.Ytgffficaoioljaa.P Go.Proofs.Ytgffficaoioljaa.Pl Go.Proofs.Ytgffficaoioljaa.PlA Go.Proofs.YtgffficaoioljaaW.PrintWords Go.Proofs.YtgffficaoioljaaW.PrintLast Go.Proofs.YtgffficaoioljaaW.PrintMore
set_option linter.unusedVariables false
theorem wdec {i : Nat} (h : i + 1 ≤ 140737488355328) : wrap64 (((i + 1 : Nat) : Int) - 1) = (i : Int) := by rw [w64 (by omega) (by omega)]; omega
theorem own (l : List Int) (h : l.length < 35184372088832) : sibyllaw01_own.f l = some l := by
  unfold sibyllaw01_own.f
  simp only [Option.bind_some, List.length_nil, List.nil_append]
  rw [if_pos (by omega)]
theorem rtrim_l1_step (k : Nat) (l out : List Int) (n i : Nat) (h : i < n) (hn : n ≤ l.length) (ho : out.length < 35184372088832) (hi : i ≤ 70368744177664) :
    sibylref01_Trim.l1 (k + 1) l (n : Int) out (i : Int) = sibylref01_Trim.l1 k l (n : Int) (out ++ [rd l (i : Int)]) ((i + 1 : Nat) : Int) := by
  simp only [sibylref01_Trim.l1]
  rw [if_pos (by omega), if_pos (by omega), if_pos (by omega), if_pos ho, winc (by omega)]
theorem rtrim_l1 (l : List Int) (n : Nat) (hn : n ≤ l.length) (hn2 : n ≤ 35184372088832) : ∀ (d i : Nat), d + i = n → Ev (fun k => sibylref01_Trim.l1 k l (n : Int) (l.take i) (i : Int)) (l.take n)
  | 0, i, hi => by
    have : i = n := by omega
    subst this
    refine Ev.step (f := fun _ => some (l.take i)) (fun k => ?_) (Ev.now _)
    simp only [sibylref01_Trim.l1]
    rw [if_neg (by omega)]
  | d + 1, i, hi => by
    have ih := rtrim_l1 l n hn hn2 d (i + 1) (by omega)
    rw [take_succ (show i < l.length by omega)] at ih
    exact Ev.step (fun k => rtrim_l1_step k l (l.take i) n i (by omega) hn (by rw [List.length_take]; omega) (by omega)) ih
theorem rtrim_l0_zero (k : Nat) (l : List Int) (n : Nat) (h : n < l.length) (hl : l.length ≤ 70368744177664) (h0 : rd l (n : Int) = 0) : sibylref01_Trim.l0 (k + 1) l ((n + 1 : Nat) : Int) = sibylref01_Trim.l0 k l (n : Int) := by
  simp only [sibylref01_Trim.l0]
  rw [wdec (by omega), if_pos (by omega), if_pos (by omega), if_pos (by omega), if_pos h0]
theorem rtrim_l0_ne (k : Nat) (l : List Int) (n : Nat) (h : n < l.length) (hl : l.length ≤ 70368744177664) (h0 : rd l (n : Int) ≠ 0) : sibylref01_Trim.l0 (k + 1) l ((n + 1 : Nat) : Int) = sibylref01_Trim.j1 k l ((n + 1 : Nat) : Int) := by
  simp only [sibylref01_Trim.l0]
  rw [wdec (by omega), if_pos (by omega), if_pos (by omega), if_pos (by omega), if_neg h0]
theorem rtrim_j1 (l : List Int) (n : Nat) (hn : n ≤ l.length) (hn2 : n ≤ 35184372088832) : Ev (fun k => sibylref01_Trim.j1 k l (n : Int)) (l.take n) := by
  have h := rtrim_l1 l n hn hn2 n 0 (by omega)
  refine Ev.step (fun k => ?_) h
  simp only [sibylref01_Trim.j1]
  rfl
theorem rtrim_l0 (l : List Int) (hl : l.length ≤ 70368744177664) : ∀ n : Nat, n ≤ l.length → (trim (l.take n)).length ≤ 35184372088832 → Ev (fun k => sibylref01_Trim.l0 k l (n : Int)) (trim (l.take n))
  | 0, _, _ => by
    have h := rtrim_j1 l 0 (Nat.zero_le _) (by omega)
    refine Ev.step (fun k => ?_) h
    simp only [sibylref01_Trim.l0]
    rw [if_neg (by omega)]
  | n + 1, h, hn2 => by
    by_cases h0 : rd l (n : Int) = 0
    · rw [trim_take_zero (by omega) h0] at hn2 ⊢
      exact Ev.step (fun k => rtrim_l0_zero k l n (by omega) hl h0) (rtrim_l0 l hl n (by omega) hn2)
    · rw [trim_take_ne (by omega) h0] at hn2 ⊢
      rw [List.length_take] at hn2
      exact Ev.step (fun k => rtrim_l0_ne k l n (by omega) hl h0) (rtrim_j1 l (n + 1) h (by omega))
theorem rtrim (l : List Int) (hl : l.length ≤ 70368744177664) (ht : (trim l).length ≤ 35184372088832) : Ev (fun k => sibylref01_Trim.f k l) (trim l) := by
  have := rtrim_l0 l hl l.length (Nat.le_refl _) (by rw [List.take_length]; exact ht)
  rwa [List.take_length] at this
theorem rtrim' (l : List Int) (hl : l.length ≤ 35184372088832) : Ev (fun k => sibylref01_Trim.f k l) (trim l) :=
  rtrim l (by omega) (Nat.le_trans (trim_len l) hl)
def fitOf (l : List Int) : List Int × Int := if (l.length : Int) > 16 then ([], 4) else (l, 0)
theorem rfit (l : List Int) (hl : l.length ≤ 35184372088832) : Ev (fun k => sibylref01_Fit.f k l) (fitOf (trim l)) := by
  unfold sibylref01_Fit.f
  refine Ev.bind (rtrim' l hl) ?_
  unfold fitOf
  split <;> exact Ev.now _
theorem rsame_step (k : Nat) (a b : List Int) (i : Nat) (h1 : i < a.length) (h2 : i < b.length) (h3 : a.length ≤ 70368744177664) (h : rd a (i : Int) = rd b (i : Int)) : sibylref01_Same.l0 (k + 1) a b (i : Int) = sibylref01_Same.l0 k a b ((i + 1 : Nat) : Int) := by
  simp only [sibylref01_Same.l0]
  rw [if_pos (by omega), if_pos (by omega), if_pos (by omega), if_pos h, winc (by omega)]
theorem rsame_l0 (a : List Int) (hl : a.length ≤ 70368744177664) : ∀ (d i : Nat), d + i = a.length → Ev (fun k => sibylref01_Same.l0 k a a (i : Int)) true
  | 0, i, hi => by
    refine Ev.step (f := fun _ => some true) (fun k => ?_) (Ev.now _)
    simp only [sibylref01_Same.l0]
    rw [if_neg (by omega)]
  | d + 1, i, hi => Ev.step (fun k => rsame_step k a a i (by omega) (by omega) hl rfl) (rsame_l0 a hl d (i + 1) (by omega))
theorem rsame_refl (a : List Int) (hl : a.length ≤ 70368744177664) : Ev (fun k => sibylref01_Same.f k a a) true := by
  unfold sibylref01_Same.f
  refine Ev.congr (fun k => if_pos rfl) (rsame_l0 a hl a.length 0 (by omega))
end Go.Proofs.Ytgffficaoioljaa.PlN
end
section
namespace Go.Proofs.Ytgffficaoioljaa.PlN
open Go.RowKit Go.Proofs.Ytgffficaoioljaa.P Go.Proofs.Ytgffficaoioljaa.Pl Go.Proofs.Ytgffficaoioljaa.PlA Go.Proofs.YtgffficaoioljaaW.PrintWords Go.Proofs.YtgffficaoioljaaW.PrintLast Go.Proofs.YtgffficaoioljaaW.PrintMore
set_option linter.unusedVariables false
end Go.Proofs.Ytgffficaoioljaa.PlN
end
section
namespace Go.Proofs.Ytgffficaoioljaa.PlN
open Go.RowKit Go.Proofs.Ytgffficaoioljaa.P Go.Proofs.Ytgffficaoioljaa.Pl Go.Proofs.Ytgffficaoioljaa.PlA Go.Proofs.YtgffficaoioljaaW.PrintWords Go.Proofs.YtgffficaoioljaaW.PrintLast Go.Proofs.YtgffficaoioljaaW.PrintMore
set_option linter.unusedVariables false
theorem fit_len (l : List Int) : (fitOf l).1.length ≤ 16 := by
  unfold fitOf
  split
  · simp
  · simp only; omega
end Go.Proofs.Ytgffficaoioljaa.PlN
end
section
namespace Go.Proofs.Ytgffficaoioljaa.PlN
open Go.RowKit Go.Proofs.Ytgffficaoioljaa.P Go.Proofs.Ytgffficaoioljaa.Pl Go.Proofs.Ytgffficaoioljaa.PlA Go.Proofs.YtgffficaoioljaaW.PrintWords Go.Proofs.YtgffficaoioljaaW.PrintLast Go.Proofs.YtgffficaoioljaaW.PrintMore
set_option linter.unusedVariables false
def dig (v : Nat) : List Int := if h : v = 0 then [] else (48 + ((v % 10 : Nat) : Int)) :: dig (v / 10)
termination_by v
decreasing_by omega
theorem dig_zero : dig 0 = [] := by unfold dig; rfl
theorem dig_pos {v : Nat} (h : v ≠ 0) : dig v = (48 + ((v % 10 : Nat) : Int)) :: dig (v / 10) := by
  conv => lhs; unfold dig
  rw [dif_neg h]
def dval : List Int → Int
  | [] => 0
  | x :: l => (x - 48) + 10 * dval l
def Digs (l : List Int) : Prop := ∀ x ∈ l, 48 ≤ x ∧ x ≤ 57
theorem Digs.nil : Digs [] := fun _ h => by cases h
theorem Digs.append {a b : List Int} (ha : Digs a) (hb : Digs b) : Digs (a ++ b) := by
  intro y hy
  rcases List.mem_append.1 hy with hy | hy
  · exact ha y hy
  · exact hb y hy
theorem dval_append (a b : List Int) : dval (a ++ b) = dval a + 10 ^ a.length * dval b := by
  induction a with
  | nil => simp [dval]
  | cons x a ih =>
    simp only [List.cons_append, dval, ih, List.length_cons, Int.pow_succ]
    grind
theorem dval_nonneg : ∀ {l : List Int}, Digs l → 0 ≤ dval l
  | [], _ => Int.le_refl _
  | x :: l, h => by
    have h1 := dval_nonneg (l := l) (fun y hy => h y (List.mem_cons_of_mem _ hy))
    have h2 := h x List.mem_cons_self
    simp only [dval]
    omega
def strip : List Int → List Int
  | [] => []
  | x :: l => if strip l = [] ∧ x = 48 then [] else x :: strip l
theorem strip_snoc48 (l : List Int) : strip (l ++ [48]) = strip l := by
  induction l with
  | nil => simp [strip]
  | cons x l ih => simp only [List.cons_append, strip, ih]
theorem strip_snoc (l : List Int) (x : Int) (h : x ≠ 48) : strip (l ++ [x]) = l ++ [x] := by
  induction l with
  | nil => simp [strip, h]
  | cons y l ih => simp [strip, ih]
theorem strip_dig : ∀ {l : List Int}, Digs l → strip l = dig (dval l).toNat
  | [], _ => by simp [strip, dval, dig_zero]
  | x :: l, h => by
    have hl : Digs l := fun y hy => h y (List.mem_cons_of_mem _ hy)
    have h1 := dval_nonneg hl
    have h2 := h x List.mem_cons_self
    have ih := strip_dig hl
    simp only [strip, dval]
    obtain ⟨v, hv⟩ := Int.eq_ofNat_of_zero_le h1
    rw [hv] at ih ⊢
    rw [Int.toNat_natCast] at ih
    by_cases hc : strip l = [] ∧ x = 48
    · rw [if_pos hc]
      have hv0 : v = 0 := by
        by_cases h0 : v = 0
        · exact h0
        · rw [hc.1, dig_pos h0] at ih; cases ih
      rw [hc.2, hv0]
      simp [dig_zero]
    · rw [if_neg hc]
      have hne : (x - 48 + 10 * (v : Int)).toNat ≠ 0 := by
        intro e
        have hv0 : v = 0 := by omega
        refine hc ⟨?_, by omega⟩
        rw [ih, hv0, dig_zero]
      rw [dig_pos hne, ih]
      congr 1
      · omega
      · congr 1; omega
theorem dig_ne {v : Nat} (h : v ≠ 0) : dig v ≠ [] := by rw [dig_pos h]; simp
def textOf (v : Nat) : ByteArray := if v = 0 then ⟨#[48]⟩ else strOfNums (dig v).reverse
def chunk : Nat → Int → List Int
  | 0, _ => []
  | n + 1, r => (48 + r % 10) :: chunk n (r / 10)
theorem chunk_len : ∀ n r, (chunk n r).length = n
  | 0, _ => rfl
  | n + 1, r => by simp [chunk, chunk_len n]
theorem chunk_digs : ∀ n r, Digs (chunk n r)
  | 0, _ => Digs.nil
  | n + 1, r => by
    intro y hy
    rcases List.mem_cons.1 hy with rfl | hy
    · omega
    · exact chunk_digs n (r / 10) y hy
theorem chunk_val : ∀ (n : Nat) (r : Int), 0 ≤ r → r < 10 ^ n → dval (chunk n r) = r
  | 0, r, h0, h1 => by
    simp at h1
    simp only [chunk, dval]
    omega
  | n + 1, r, h0, h1 => by
    rw [Int.pow_succ] at h1
    have := chunk_val n (r / 10) (by omega) (by omega)
    simp only [chunk, dval, this]
    omega
theorem digits_l1_step (k : Nat) (q out : List Int) (r : Int) (i : Nat) (hi : i < 9) (ho : out.length < 140737488355328) (hr : 0 ≤ r ∧ r < 4294967296) :
    nats_Digits.l1 (k + 1) q out r (i : Int) = nats_Digits.l1 k q (out ++ [48 + r % 10]) (r / 10) ((i + 1 : Nat) : Int) := by
  simp only [nats_Digits.l1]
  rw [if_pos (by omega), if_pos ho, winc (by omega), tmod_nn (by omega), tdiv_nn (by omega), show (48 + r % 10) % 256 = 48 + r % 10 from by omega, show r / 10 % 4294967296 = r / 10 from by omega]
theorem digits_l1 (q : List Int) {R : ByteArray} : ∀ (d i : Nat) (out : List Int) (r : Int), d + i = 9 → out.length + d < 140737488355328 → 0 ≤ r ∧ r < 4294967296 → Ev (fun k => nats_Digits.l0 k q (out ++ chunk d r)) R → Ev (fun k => nats_Digits.l1 k q out r (i : Int)) R
  | 0, i, out, r, hi, ho, hr, h => by
    rw [chunk, List.append_nil] at h
    refine Ev.step (fun k => ?_) h
    simp only [nats_Digits.l1]
    rw [if_neg (by omega)]
  | d + 1, i, out, r, hi, ho, hr, h => by
    refine Ev.step (fun k => digits_l1_step k q out r i (by omega) (by omega) hr) (digits_l1 q d (i + 1) (out ++ [48 + r % 10]) (r / 10) (by omega) (by simp; omega) (by omega) ?_)
    rw [List.append_assoc]
    exact h
theorem digits_l3_step (k : Nat) (X : List Int) (i j : Nat) (h : i < j) (hj : j < X.length) (hl : X.length ≤ 70368744177664) :
    nats_Digits.l3 (k + 1) X (i : Int) (j : Int) = nats_Digits.l3 k ((X.set i (rd X (j : Int))).set j (rd X (i : Int))) ((i + 1 : Nat) : Int) ((j - 1 : Nat) : Int) := by
  simp only [nats_Digits.l3]
  rw [if_pos (by omega), if_pos (by omega), if_pos (by omega), if_pos (by omega), if_pos (by omega), winc (by omega), w64 (x := (j : Int) - 1) (by omega) (by omega), Int.toNat_natCast, Int.toNat_natCast, show (j : Int) - 1 = ((j - 1 : Nat) : Int) from by omega]
theorem digits_l3_end (k : Nat) (X : List Int) (i j : Int) (h : ¬ i < j) : nats_Digits.l3 (k + 1) X i j = some (strOfNums X) := by
  simp only [nats_Digits.l3]
  rw [if_neg h]
theorem ext_rd {a b : List Int} (hl : a.length = b.length) (h : ∀ t, t < a.length → rd a (t : Int) = rd b (t : Int)) : a = b := by
  apply List.ext_getElem hl
  intro t h1 h2
  have := h t h1
  rw [rd_of h1, rd_of h2] at this
  exact this
theorem rd_rev {s : List Int} {t : Nat} (h : t < s.length) : rd s.reverse (t : Int) = rd s ((s.length - 1 - t : Nat) : Int) := by
  rw [rd_of (by simpa using h), rd_of (by omega)]
  simp
theorem digits_l3 (s : List Int) (hl : s.length ≤ 70368744177664) : ∀ (d i : Nat) (X : List Int), i + d = s.length → X.length = s.length → (∀ t, t < s.length → rd X (t : Int) = if t < i ∨ s.length - i ≤ t then rd s ((s.length - 1 - t : Nat) : Int) else rd s (t : Int)) → 2 * i ≤ s.length → 0 < s.length →
    Ev (fun k => nats_Digits.l3 k X (i : Int) ((s.length - 1 - i : Nat) : Int)) (strOfNums s.reverse)
  | d, i, X, hi, hx, hr, h2, h3 => by
    by_cases h : i < s.length - 1 - i
    · match d with
      | 0 => omega
      | d + 1 =>
        refine Ev.step (fun k => digits_l3_step k X i (s.length - 1 - i) h (by omega) (by omega)) ?_
        rw [show s.length - 1 - i - 1 = s.length - 1 - (i + 1) from by omega]
        refine digits_l3 s hl d (i + 1) _ (by omega) (by simp [hx]) ?_ (by omega) h3
        intro t ht
        have ri := hr i (by omega)
        have rj := hr (s.length - 1 - i) (by omega)
        rw [if_neg (by omega)] at ri rj
        by_cases e1 : t = s.length - 1 - i
        · rw [e1, rd_set_self (by simp [hx]; omega), ri, if_pos (by omega), show s.length - 1 - (s.length - 1 - i) = i from by omega]
        · rw [rd_set_ne (fun e => e1 e.symm)]
          by_cases e2 : t = i
          · rw [e2, rd_set_self (by omega), rj, if_pos (by omega)]
          · rw [rd_set_ne (fun e => e2 e.symm), hr t ht]
            by_cases e3 : t < i ∨ s.length - i ≤ t
            · rw [if_pos e3, if_pos (by omega)]
            · rw [if_neg e3, if_neg (by omega)]
    · have e : X = s.reverse := by
        refine ext_rd (by simp [hx]) (fun t ht => ?_)
        rw [hx] at ht
        rw [rd_rev ht, hr t ht]
        by_cases e3 : t < i ∨ s.length - i ≤ t
        · rw [if_pos e3]
        · rw [if_neg e3, show s.length - 1 - t = t from by omega]
      rw [← e]
      exact Ev.step (fun k => digits_l3_end k X _ _ (by omega)) (Ev.now _)
theorem rd_snoc (m : List Int) (x : Int) : rd (m ++ [x]) (m.length : Int) = x := by
  rw [rd_of (by simp)]; simp
theorem digits_l2_zero (k : Nat) (m : List Int) (hl : m.length ≤ 70368744177664) : nats_Digits.l2 (k + 1) (m ++ [48]) = nats_Digits.l2 k m := by
  simp only [nats_Digits.l2]
  have e1 : wrap64 (((m ++ [(48 : Int)]).length : Int) - 1) = (m.length : Int) := by rw [List.length_append, List.length_singleton]; exact wdec (by omega)
  rw [e1, rd_snoc, if_pos (by omega), if_pos (by simp; omega), if_pos rfl, if_pos (by simp; omega), Int.toNat_natCast, List.take_left]
theorem digits_l2_ne (k : Nat) (m : List Int) (x : Int) (hx : x ≠ 48) (hl : m.length ≤ 70368744177664) : nats_Digits.l2 (k + 1) (m ++ [x]) = nats_Digits.l3 k (m ++ [x]) 0 (m.length : Int) := by
  simp only [nats_Digits.l2]
  have e1 : wrap64 (((m ++ [x]).length : Int) - 1) = (m.length : Int) := by rw [List.length_append, List.length_singleton]; exact wdec (by omega)
  rw [e1, rd_snoc, if_pos (by omega), if_pos (by simp; omega), if_neg hx]
theorem digits_l2 : ∀ (n : Nat) (s : List Int), s.length = n → s.length ≤ 70368744177664 → strip s ≠ [] → Ev (fun k => nats_Digits.l2 k s) (strOfNums (strip s).reverse)
  | 0, s, hn, hl, hne => absurd (by rw [List.eq_nil_of_length_eq_zero hn]; rfl) hne
  | n + 1, s, hn, hl, hne => by
    obtain ⟨m, x, rfl⟩ := snoc_of_ne (l := s) (by intro e; rw [e] at hn; simp at hn)
    rw [List.length_append, List.length_singleton] at hn hl
    by_cases hx : x = 48
    · subst hx
      rw [strip_snoc48] at hne ⊢
      exact Ev.step (fun k => digits_l2_zero k m (by omega)) (digits_l2 n m (by omega) (by omega) hne)
    · rw [strip_snoc _ _ hx]
      refine Ev.step (fun k => digits_l2_ne k m x hx (by omega)) ?_
      have h := digits_l3 (m ++ [x]) (by simp; omega) (m ++ [x]).length 0 (m ++ [x]) (by omega) rfl (fun t ht => by rw [if_neg (by omega)]) (by omega) (by simp)
      have e : (((m ++ [x]).length - 1 - 0 : Nat) : Int) = (m.length : Int) := by simp
      rw [e] at h
      exact h
theorem pow10 (n : Nat) : (10 : Int) ^ (n + 9) = 10 ^ n * 1000000000 := by rw [Int.pow_add]; rfl
theorem digits_l0 (v : Int) (hv : 0 < v) : ∀ (N : Nat) (a out : List Int) (x : Int), Is a x → a.length ≤ 70368744177664 → Digs out → out.length + 9 * N ≤ 1000000 → x < 1000000000 ^ N → Hd (dval out + 10 ^ out.length * x = v) → Ev (fun k => nats_Digits.l0 k a out) (strOfNums (dig v.toNat).reverse)
  | N, a, out, x, hI, hl, hd, ho, hx, he => by
    by_cases ha : a.length = 0
    · have ea : a = [] := List.eq_nil_of_length_eq_zero ha
      have ex : x = 0 := hI.zero_iff.1 ea
      have e1 : dval out = v := by have := he.out; rw [ex] at this; simpa using this
      have e2 := strip_dig hd
      rw [e1] at e2
      have h2 := digits_l2 out.length out rfl (by omega) (by rw [e2]; exact dig_ne (by omega))
      rw [e2] at h2
      refine Ev.step (fun k => ?_) h2
      simp only [nats_Digits.l0]
      rw [if_neg (by omega)]
    · have hx0 : 0 < x := by
        have h1 := hI.nonneg
        have h2 : x ≠ 0 := fun e => ha (by rw [hI.zero_iff.2 e]; rfl)
        omega
      match N with
      | 0 => simp at hx; omega
      | N + 1 =>
        obtain ⟨q, hq, hQ⟩ := word a 1000000000 hI.wf hl (by omega)
        rw [hI.val] at hq hQ
        have hrem : 0 ≤ x % 1000000000 ∧ x % 1000000000 < 1000000000 := by omega
        have hql : q.length ≤ a.length := hQ.len (Int.lt_of_le_of_lt (show x / 1000000000 ≤ x by omega) hI.lt)
        have hnext := digits_l0 v hv N q (out ++ chunk 9 (x % 1000000000)) (x / 1000000000) hQ (by omega) (hd.append (chunk_digs _ _)) (by rw [List.length_append, chunk_len]; omega) (by rw [Int.pow_succ] at hx; omega)
          ⟨by
            have h1 := he.out
            rw [dval_append, List.length_append, chunk_len, chunk_val 9 _ hrem.1 (by simpa using hrem.2), pow10]
            have h2 : x = x % 1000000000 + 1000000000 * (x / 1000000000) := by omega
            generalize x % 1000000000 = r at *
            generalize x / 1000000000 = y at *
            generalize (10 : Int) ^ out.length = P at *
            clear hq hQ hrem hql hx he
            subst h2
            grind⟩
        have h1 := digits_l1 q 9 0 out (x % 1000000000) (by omega) (by omega) (by omega) hnext
        refine Ev.step (f := fun k => (nats_word.f k a 1000000000).bind fun bt277 => nats_Digits.l1 k bt277.1 out bt277.2 0) (fun k => ?_) (Ev.bind hq h1)
        simp only [nats_Digits.l0]
        rw [if_pos (by omega)]
theorem digits (a : List Int) (ha : Wf a) (hl : a.length ≤ 35184372088831) (hv : val a < 1000000000 ^ 18) : Ev (fun k => nats_Digits.f k a) (textOf (val a).toNat) := by
  have ia := Is.of ha rfl
  have la := trim_len a
  have hn := val_nonneg ha
  unfold nats_Digits.f
  refine Ev.bind (natsTrim a (by omega)) ?_
  unfold textOf
  by_cases h : val a = 0
  · have e : trim a = [] := ia.zero_iff.2 h
    rw [h, Int.toNat_zero, if_pos rfl, e]
    exact Ev.now _
  · have e : (trim a).length ≠ 0 := fun e => h (ia.zero_iff.1 (List.eq_nil_of_length_eq_zero e))
    rw [if_neg (by omega)]
    refine Ev.congr (fun k => if_neg (by omega)) ?_
    exact digits_l0 (val a) (by omega) 18 (trim a) [] (val a) ia (by omega) Digs.nil (by simp) hv ⟨by simp [dval]⟩
end Go.Proofs.Ytgffficaoioljaa.PlN
end
section
namespace Go.Proofs.Ytgffficaoioljaa.PlN
open Go.RowKit Go.Proofs.Ytgffficaoioljaa.P Go.Proofs.Ytgffficaoioljaa.Pl Go.Proofs.Ytgffficaoioljaa.PlA Go.Proofs.YtgffficaoioljaaW.PrintWords Go.Proofs.YtgffficaoioljaaW.PrintLast Go.Proofs.YtgffficaoioljaaW.PrintMore
set_option linter.unusedVariables false
theorem letter : ∀ r : Fin 10, (⟨#[48, 49, 50, 51, 52, 53, 54, 55, 56, 57]⟩ : ByteArray).extract r.val (r.val + 1) = strOfNums [48 + (r.val : Int)] := by decide +kernel
theorem letter_size : ∀ r : Fin 10, (strOfNums [48 + (r.val : Int)]).size = 1 := by decide +kernel
theorem strOf_append (a b : List Int) : strOfNums (a ++ b) = strOfNums a ++ strOfNums b := by
  apply ByteArray.ext
  simp [strOfNums, ByteArray.data_append]
theorem rtext_l1_step (k : Nat) (O : List Int) (s : ByteArray) (r q r2 : Int) (n : Nat) (hO : Wf O) (hn : n < O.length) (hl : O.length ≤ 70368744177664) (hr : 0 ≤ r ∧ r < 10)
    (eq : Hd ((r * 4294967296 + rd O (n : Int)) / 10 = q)) (er : Hd ((r * 4294967296 + rd O (n : Int)) % 10 = r2)) (hq : 0 ≤ q ∧ q < 4294967296) :
    sibylref01_Text.l1 (k + 1) O s r (n : Int) = sibylref01_Text.l1 k (O.set n q) s r2 ((n : Int) - 1) := by
  have hx := rd_wf' hO n
  simp only [sibylref01_Text.l1]
  rw [u64 (x := r * 4294967296) (by omega) (by omega), u64 (x := rd O (n : Int)) (by omega) (by omega), u64 (x := r * 4294967296 + rd O (n : Int)) (by omega) (by omega), tdiv_nn (by omega), tmod_nn (by omega), eq.out, er.out,
    u64 (x := q) (by omega) (by omega), show q % 4294967296 = q from by omega, Int.toNat_natCast, w64 (x := (n : Int) - 1) (by omega) (by omega), if_pos (by omega), if_pos (by omega), if_pos (by omega)]
theorem rtext_l1_end (k : Nat) (O : List Int) (s : ByteArray) (r : Nat) (hr : r < 10) (hs : s.size ≤ 1000000) : sibylref01_Text.l1 (k + 1) O s (r : Int) (-1) = (sibylref01_Trim.f k O).bind fun t => sibylref01_Text.l0 k t (strOfNums [48 + (r : Int)] ++ s) := by
  have h1 := letter ⟨r, hr⟩
  have h2 := letter_size ⟨r, hr⟩
  simp only at h1 h2
  simp only [sibylref01_Text.l1]
  rw [u64 (x := (r : Int) + 1) (by omega) (by omega), show ((r : Int) + 1).toNat = r + 1 from by omega, Int.toNat_natCast, h1, if_neg (by omega), if_pos (by omega), if_pos (by omega), if_pos (by omega), if_pos (by omega)]
theorem rtext_l1 (a : List Int) (s : ByteArray) (ha : Wf a) (hl : a.length ≤ 35184372088832) (hs : s.size ≤ 1000000) {R : List Int × Int → Prop} {X : ByteArray × Int} (hnext : ∀ (q : List Int), Is q (val a / 10) → Ev (fun k => sibylref01_Text.l0 k q (strOfNums [48 + val a % 10] ++ s)) X) :
    ∀ (n : Nat) (O : List Int) (r : Int), n ≤ a.length → O.length = a.length → Wf O → O.take n = a.take n → 0 ≤ r ∧ r < 10 → Hd (val (O.drop n) * 10 + r = val (a.drop n)) → Ev (fun k => sibylref01_Text.l1 k O s r ((n : Int) - 1)) X
  | 0, O, r, hn, ho, hw, ht, hr, hv => by
    have h4 : val O * 10 + r = val a := by simpa using hv.out
    have e1 : val a / 10 = val O := by omega
    have e2 : val a % 10 = r := by omega
    have h := hnext (trim O) (by rw [e1]; exact Is.of hw rfl)
    rw [e2] at h
    obtain ⟨m, rfl⟩ := Int.eq_ofNat_of_zero_le hr.1
    exact Ev.step (fun k => rtext_l1_end k O s m (by omega) hs) (Ev.bind (rtrim' O (by omega)) h)
  | n + 1, O, r, hn, ho, hw, ht, hr, hv => by
    have hrd : rd O (n : Int) = rd a (n : Int) := by
      have h1 : (O.take (n + 1)).getD n 0 = (a.take (n + 1)).getD n 0 := by rw [ht]
      rw [rd_nat, rd_nat]
      simpa [List.getD_eq_getElem?_getD, List.getElem?_take] using h1
    obtain ⟨q, r2, eq, er, hq, hr2, hqr⟩ := divstep (w := 10) (by decide) hr (rd_wf' hw n)
    rw [show ((n + 1 : Nat) : Int) - 1 = (n : Int) from by omega]
    refine Ev.step (fun k => rtext_l1_step k O s r q r2 n hw (by omega) (by omega) hr eq er hq) ?_
    refine rtext_l1 a s ha hl hs (R := R) hnext n (O.set n q) r2 (by omega) (by simp [ho]) (hw.set _ hq.1 hq.2) ?_ hr2 ?_
    · have := congrArg (List.take n) ht
      rw [List.take_take, List.take_take, Nat.min_eq_left (by omega)] at this
      rw [List.take_set, List.set_eq_of_length_le (by rw [List.length_take]; omega)]
      exact this
    · refine ⟨?_⟩
      rw [val_drop_rd (l := O.set n q) (by simp; omega), val_drop_rd (l := a) (by omega), rd_set_self (by omega), drop_set_lt (by omega), ← hrd]
      have h1 := hv.out
      have h2 := hqr.out
      clear eq er hnext
      generalize val (O.drop (n + 1)) = Q at *
      generalize val (a.drop (n + 1)) = A at *
      generalize rd O (n : Int) = x at *
      grind
theorem rtext_l0_end (k : Nat) (s : ByteArray) : sibylref01_Text.l0 (k + 1) [] s = some (s, 0) := by
  simp only [sibylref01_Text.l0]
  rw [if_neg (by simp)]
theorem rtext_l0_step (k : Nat) (a : List Int) (s : ByteArray) (h : a.length ≠ 0) (hl : a.length ≤ 70368744177664) : sibylref01_Text.l0 (k + 1) a s = sibylref01_Text.l1 k a s 0 ((a.length : Int) - 1) := by
  simp only [sibylref01_Text.l0]
  rw [if_pos (by omega), w64 (by omega) (by omega)]
theorem rtext_l0 : ∀ (N : Nat) (a : List Int) (s : ByteArray) (v : Int), Is a v → a.length ≤ 35184372088832 → v < 10 ^ N → s.size + N ≤ 1000000 → Ev (fun k => sibylref01_Text.l0 k a s) (strOfNums (dig v.toNat).reverse ++ s, 0)
  | N, a, s, v, hI, hl, hv, hs => by
    by_cases ha : a.length = 0
    · have ea : a = [] := List.eq_nil_of_length_eq_zero ha
      have ev : v = 0 := hI.zero_iff.1 ea
      subst ea
      subst ev
      have e : strOfNums (dig (Int.toNat 0)).reverse ++ s = s := by
        rw [Int.toNat_zero, dig_zero]
        apply ByteArray.ext
        simp [strOfNums, ByteArray.data_append]
      rw [e]
      exact Ev.step (fun k => rtext_l0_end k s) (Ev.now _)
    · have hx0 : 0 < v := by
        have h1 := hI.nonneg
        have h2 : v ≠ 0 := fun e => ha (by rw [hI.zero_iff.2 e]; rfl)
        omega
      match N with
      | 0 => simp at hv; omega
      | N + 1 =>
        refine Ev.step (fun k => rtext_l0_step k a s ha (by omega)) ?_
        refine rtext_l1 a s hI.wf hl (by omega) (R := fun _ => True) ?_ a.length a 0 (Nat.le_refl _) rfl hI.wf rfl (by omega) ⟨by simp [val]⟩
        intro q hQ
        rw [hI.val] at hQ ⊢
        obtain ⟨m, hm⟩ := Int.eq_ofNat_of_zero_le (show 0 ≤ v % 10 by omega)
        have hsz := letter_size ⟨m, by omega⟩
        simp only at hsz
        have h := rtext_l0 N q (strOfNums [48 + v % 10] ++ s) (v / 10) hQ (Nat.le_trans (hQ.len (Int.lt_of_le_of_lt (show v / 10 ≤ v by omega) hI.lt)) hl) (by rw [Int.pow_succ] at hv; omega) (by rw [ByteArray.size_append, hm, hsz]; omega)
        have e : strOfNums (dig (v / 10).toNat).reverse ++ (strOfNums [48 + v % 10] ++ s) = strOfNums (dig v.toNat).reverse ++ s := by
          have h0 : v.toNat ≠ 0 := by omega
          rw [dig_pos h0, List.reverse_cons, strOf_append, ByteArray.append_assoc, show (v / 10).toNat = v.toNat / 10 from by omega, show v % 10 = ((v.toNat % 10 : Nat) : Int) from by omega]
        rwa [e] at h
theorem rtext (a : List Int) (ha : Wf a) (hl : a.length ≤ 35184372088832) (h16 : (trim a).length ≤ 16) (hv : val a < 10 ^ 155) : Ev (fun k => sibylref01_Text.f k a) (textOf (val a).toNat, 0) := by
  have ia := Is.of ha rfl
  have la := trim_len a
  have hn := val_nonneg ha
  unfold sibylref01_Text.f
  have hf := rfit a hl
  have e1 : fitOf (trim a) = (trim a, 0) := by unfold fitOf; rw [if_neg (by omega)]
  rw [e1] at hf
  refine Ev.bind hf ?_
  refine Ev.congr (fun k => if_pos rfl) ?_
  unfold textOf
  by_cases h : val a = 0
  · have e : trim a = [] := ia.zero_iff.2 h
    rw [h, Int.toNat_zero, if_pos rfl, e]
    exact Ev.now _
  · have e : (trim a).length ≠ 0 := fun e => h (ia.zero_iff.1 (List.eq_nil_of_length_eq_zero e))
    rw [if_neg (by omega)]
    refine Ev.congr (fun k => if_neg (show ¬ ((trim a).length : Int) = 0 by omega)) ?_
    have h := rtext_l0 155 (trim a) ⟨#[]⟩ (val a) ia (by omega) hv (by decide)
    have e2 : strOfNums (dig (val a).toNat).reverse ++ (⟨#[]⟩ : ByteArray) = strOfNums (dig (val a).toNat).reverse := by
      apply ByteArray.ext
      simp [ByteArray.data_append]
    rwa [e2] at h
theorem rtext_big (a : List Int) (ha : Wf a) (hl : a.length ≤ 35184372088832) (h16 : 16 < (trim a).length) : Ev (fun k => sibylref01_Text.f k a) (⟨#[]⟩, 4) := by
  unfold sibylref01_Text.f
  have hf := rfit a hl
  have e1 : fitOf (trim a) = ([], 4) := by unfold fitOf; rw [if_pos (by omega)]
  rw [e1] at hf
  refine Ev.bind hf ?_
  exact Ev.congr (fun k => if_neg (by decide)) (Ev.now _)
end Go.Proofs.Ytgffficaoioljaa.PlN
end
