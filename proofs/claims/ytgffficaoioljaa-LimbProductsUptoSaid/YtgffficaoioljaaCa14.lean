import Derived.Test.YtgffficaoioljaaCa9
import Derived.Test.YtgffficaoioljaaCa10
import Derived.Test.YtgffficaoioljaaCa11
section
namespace Go.Proofs.Ytgffficaoioljaa.PlN
open Go.RowKit Go.Proofs.Ytgffficaoioljaa.P Go.Proofs.Ytgffficaoioljaa.Pl Go.Proofs.Ytgffficaoioljaa.PlA Go.Proofs.YtgffficaoioljaaW.PrintWords Go.Proofs.YtgffficaoioljaaW.PrintLast Go.Proofs.YtgffficaoioljaaW.PrintMore
theorem trim_take_zero {l : List Int} {n : Nat} (h : n < l.length) (h0 : rd l (n : Int) = 0) : trim (l.take (n + 1)) = trim (l.take n) := by
  rw [take_succ h, h0, trim_zero]
theorem trim_take_ne {l : List Int} {n : Nat} (h : n < l.length) (h0 : rd l (n : Int) ≠ 0) : trim (l.take (n + 1)) = l.take (n + 1) := by
  rw [take_succ h, trim_snoc _ _ h0]
theorem cut_l0 (l : List Int) (hl : l.length ≤ 9223372036854775807) : ∀ n : Nat, n ≤ l.length → Ev (fun k => nats_cut.l0 k l (n : Int)) (trim (l.take n))
  | 0, _ => by
    refine Ev.step (f := fun _ => some []) (fun k => ?_) (Ev.now _)
    simp only [nats_cut.l0]
    rw [if_neg (by omega), if_pos (by omega), if_pos (by omega)]
    rfl
  | n + 1, h => by
    have hw : wrap64 (((n + 1 : Nat) : Int) - 1) = (n : Int) := by rw [w64 (by omega) (by omega)]; omega
    by_cases h0 : rd l (n : Int) = 0
    · rw [trim_take_zero (by omega) h0]
      refine Ev.step (fun k => ?_) (cut_l0 l hl n (by omega))
      simp only [nats_cut.l0]
      rw [hw, if_pos (by omega), if_pos (by omega), if_pos (by omega), if_pos h0]
    · rw [trim_take_ne (by omega) h0]
      refine Ev.step (f := fun _ => some (l.take (n + 1))) (fun k => ?_) (Ev.now _)
      simp only [nats_cut.l0]
      rw [hw, if_pos (by omega), if_pos (by omega), if_pos (by omega), if_neg h0, if_pos (by omega), if_pos (by omega), Int.toNat_natCast]
theorem cut (l : List Int) (hl : l.length ≤ 9223372036854775807) : Ev (fun k => nats_cut.f k l) (trim l) := by
  have := cut_l0 l hl l.length (Nat.le_refl _)
  rwa [List.take_length] at this
theorem cuto_l0 (l : List Int) (hl : l.length ≤ 9223372036854775807) : ∀ n : Nat, n ≤ l.length → Ev (fun k => nats_cuto.l0 k l (n : Int)) (trim (l.take n))
  | 0, _ => by
    refine Ev.step (f := fun _ => some []) (fun k => ?_) (Ev.now _)
    simp only [nats_cuto.l0]
    rw [if_neg (by omega), if_pos (by omega), if_pos (by omega)]
    rfl
  | n + 1, h => by
    have hw : wrap64 (((n + 1 : Nat) : Int) - 1) = (n : Int) := by rw [w64 (by omega) (by omega)]; omega
    by_cases h0 : rd l (n : Int) = 0
    · rw [trim_take_zero (by omega) h0]
      refine Ev.step (fun k => ?_) (cuto_l0 l hl n (by omega))
      simp only [nats_cuto.l0]
      rw [hw, if_pos (by omega), if_pos (by omega), if_pos (by omega), if_pos h0]
    · rw [trim_take_ne (by omega) h0]
      refine Ev.step (f := fun _ => some (l.take (n + 1))) (fun k => ?_) (Ev.now _)
      simp only [nats_cuto.l0]
      rw [hw, if_pos (by omega), if_pos (by omega), if_pos (by omega), if_neg h0, if_pos (by omega), if_pos (by omega), Int.toNat_natCast]
theorem cuto (l : List Int) (hl : l.length ≤ 9223372036854775807) : Ev (fun k => nats_cuto.f k l) (trim l) := by
  have := cuto_l0 l hl l.length (Nat.le_refl _)
  rwa [List.take_length] at this
def sgn (x y : Int) : Int := if x < y then -1 else if y < x then 1 else 0
end Go.Proofs.Ytgffficaoioljaa.PlN
end
section
namespace Go.Proofs.Ytgffficaoioljaa.PlN
open Go.RowKit Go.Proofs.Ytgffficaoioljaa.P Go.Proofs.Ytgffficaoioljaa.Pl Go.Proofs.Ytgffficaoioljaa.PlA Go.Proofs.YtgffficaoioljaaW.PrintWords Go.Proofs.YtgffficaoioljaaW.PrintLast Go.Proofs.YtgffficaoioljaaW.PrintMore
theorem val_take_succ' (l : List Int) (i : Nat) : val (l.take (i + 1)) = val (l.take i) + 4294967296 ^ i * rd l (i : Int) := by
  rcases Nat.lt_or_ge i l.length with h | h
  · exact val_take_succ h
  · rw [val_take_big h, val_take_big (Nat.le_succ_of_le h), rd_big h]; simp
theorem rd_wf' {l : List Int} (hw : Wf l) (i : Nat) : 0 ≤ rd l (i : Int) ∧ rd l (i : Int) < 4294967296 := by
  rcases Nat.lt_or_ge i l.length with h | h
  · exact rd_wf hw h
  · rw [rd_big h]; omega
theorem add32 {x y c : Int} (hx : 0 ≤ x ∧ x < 4294967296) (hy : 0 ≤ y ∧ y < 4294967296) (hc : 0 ≤ c ∧ c ≤ 1) : bits_Add32.f x y c = some ((x + y + c) % 4294967296, (x + y + c) / 4294967296) := by
  unfold bits_Add32.f
  rw [u64 (x := x) (by omega) (by omega), u64 (x := y) (by omega) (by omega), u64 (x := c) (by omega) (by omega), u64 (x := x + y) (by omega) (by omega), u64 (x := x + y + c) (by omega) (by omega)]
  rw [show (x + y + c) / 4294967296 % 4294967296 = (x + y + c) / 4294967296 from by omega]
theorem pow_succ' (n : Nat) : (4294967296 : Int) ^ (n + 1) = 4294967296 ^ n * 4294967296 := Int.pow_succ _ _
theorem add32' {x y c : Int} (hx : 0 ≤ x ∧ x < 4294967296) (hy : 0 ≤ y ∧ y < 4294967296) (hc : 0 ≤ c ∧ c ≤ 1) : ∃ s c2, bits_Add32.f x y c = some (s, c2) ∧ (0 ≤ s ∧ s < 4294967296) ∧ (0 ≤ c2 ∧ c2 ≤ 1) ∧ s + 4294967296 * c2 = x + y + c :=
  ⟨_, _, add32 hx hy hc, by omega, by omega, by omega⟩
theorem add_l0 (a b : List Int) (ha : Wf a) (hb : Wf b) (hl : a.length < 35184372088831) : ∀ (d i : Nat) (out : List Int) (c : Int), d + i = a.length → out.length = i → Wf out → 0 ≤ c ∧ c ≤ 1 → b.length ≤ a.length →
    Hd (val out + 4294967296 ^ i * c = val (a.take i) + val (b.take i)) → ∃ r, Ev (fun k => nats_Add.l0 k a b out c (a.length : Int) (i : Int)) r ∧ Is r (val a + val b)
  | 0, i, out, c, hi, ho, hw, hc, hab, hv => by
    have e1 : a.take i = a := List.take_of_length_le (by omega)
    have e2 : b.take i = b := List.take_of_length_le (by omega)
    refine ⟨trim (out ++ [c]), ?_, Is.of (hw.append (Wf.one hc.1 (by omega))) (by rw [val_snoc, ho]; replace hv := hv.out; rw [e1, e2] at hv; exact hv)⟩
    clear hv
    refine Ev.step (f := fun k => (nats_cuto.f k (out ++ [c])).bind fun t => some t) (fun k => ?_) (Ev.bind (cuto _ (by simp; omega)) (Ev.now _))
    simp only [nats_Add.l0]
    rw [if_neg (by omega), if_pos (by omega)]
  | d + 1, i, out, c, hi, ho, hw, hc, hab, hv => by
    obtain ⟨s, c2, h32, hs0, hc2, hs⟩ := add32' (rd_wf' ha i) (rd_wf' hb i) hc
    have hv2 : Hd (val (out ++ [s]) + 4294967296 ^ (i + 1) * c2 = val (a.take (i + 1)) + val (b.take (i + 1))) := ⟨by
      replace hv := hv.out
      rw [val_snoc, ho, pow_succ', val_take_succ' a, val_take_succ' b]
      generalize (4294967296 : Int) ^ i = P at *
      generalize rd a (i : Int) = x at *
      generalize rd b (i : Int) = y at *
      grind⟩
    clear hv hs
    obtain ⟨r, hr, hI⟩ := add_l0 a b ha hb hl d (i + 1) (out ++ [s]) c2 (by omega) (by simp [ho]) (hw.append (Wf.one hs0.1 hs0.2)) hc2 hab hv2
    refine ⟨r, ?_, hI⟩
    have hw1 : wrap64 ((i : Int) + 1) = ((i + 1 : Nat) : Int) := by rw [w64 (by omega) (by omega)]; omega
    clear hv2 hI ha hb hw
    refine Ev.step (fun k => ?_) hr
    simp only [nats_Add.l0]
    rw [if_pos (by omega)]
    by_cases hib : i < b.length
    · rw [if_pos (by omega), if_pos (by omega), if_pos (by omega), h32]
      simp only [Option.bind_some]
      rw [if_pos (by omega), hw1]
    · have hy0 : rd b (i : Int) = 0 := rd_big (by omega)
      rw [if_neg (by omega), if_pos (by omega), if_pos (by omega)]
      rw [hy0] at h32
      rw [h32]
      simp only [Option.bind_some]
      rw [if_pos (by omega), hw1]
theorem add_j0 (a b : List Int) (ha : Wf a) (hb : Wf b) (hl : a.length < 35184372088831) (hab : b.length ≤ a.length) : ∃ r, Ev (fun k => nats_Add.j0 k a b) r ∧ Is r (val a + val b) := by
  obtain ⟨r, hr, hI⟩ := add_l0 a b ha hb hl a.length 0 [] 0 (by omega) rfl Wf.nil (by omega) hab ⟨by simp [val]⟩
  refine ⟨r, ?_, hI⟩
  refine Ev.step (fun k => ?_) hr
  simp only [nats_Add.j0]
  rw [w64 (by omega) (by omega), if_pos (by omega), if_pos (by omega)]
  rfl
theorem add (a b : List Int) (ha : Wf a) (hb : Wf b) (hl : a.length < 35184372088831) (hlb : b.length < 35184372088831) : ∃ r, Ev (fun k => nats_Add.f k a b) r ∧ Is r (val a + val b) := by
  unfold nats_Add.f
  by_cases h : (a.length : Int) < (b.length : Int)
  · obtain ⟨r, hr, hI⟩ := add_j0 b a hb ha hlb (by omega)
    exact ⟨r, Ev.congr (fun k => if_pos h) hr, by rw [Int.add_comm]; exact hI⟩
  · obtain ⟨r, hr, hI⟩ := add_j0 a b ha hb hl (by omega)
    exact ⟨r, Ev.congr (fun k => if_neg h) hr, hI⟩
theorem mul_bd {x y : Int} (hx : 0 ≤ x ∧ x < 4294967296) (hy : 0 ≤ y ∧ y < 4294967296) : 0 ≤ x * y ∧ x * y ≤ 18446744065119617025 := by
  refine ⟨Int.mul_nonneg hx.1 hy.1, ?_⟩
  have : x * y ≤ 4294967295 * 4294967295 := Int.mul_le_mul (by omega) (by omega) hy.1 (by decide)
  omega
end Go.Proofs.Ytgffficaoioljaa.PlN
end
section
namespace Go.Proofs.Ytgffficaoioljaa.PlN
open Go.RowKit Go.Proofs.Ytgffficaoioljaa.P Go.Proofs.Ytgffficaoioljaa.Pl Go.Proofs.Ytgffficaoioljaa.PlA Go.Proofs.YtgffficaoioljaaW.PrintWords Go.Proofs.YtgffficaoioljaaW.PrintLast Go.Proofs.YtgffficaoioljaaW.PrintMore
theorem drop_set_lt {l : List Int} {i n : Nat} (h : i < n) (x : Int) : (l.set i x).drop n = l.drop n := by
  apply List.ext_getElem?
  intro k
  rw [List.getElem?_drop, List.getElem?_drop, List.getElem?_set_ne (by omega)]
theorem rd_drop (l : List Int) (n k : Nat) : rd (l.drop n) (k : Int) = rd l ((n + k : Nat) : Int) := by
  rw [rd_nat, rd_nat]; simp [List.getD_eq_getElem?_getD, List.getElem?_drop]
theorem wadd {i j : Nat} (h : i + j ≤ 140737488355328) : wrap64 ((i : Int) + (j : Int)) = ((i + j : Nat) : Int) := by rw [w64 (by omega) (by omega)]; omega
theorem winc {i : Nat} (h : i ≤ 140737488355328) : wrap64 ((i : Int) + 1) = ((i + 1 : Nat) : Int) := by rw [w64 (by omega) (by omega)]; omega
theorem mulstep {x y o c : Int} (hx : 0 ≤ x ∧ x < 4294967296) (hy : 0 ≤ y ∧ y < 4294967296) (ho : 0 ≤ o ∧ o < 4294967296) (hc : 0 ≤ c ∧ c < 4294967296) :
    ∃ s c2, Hd (IntKind.u64.wrap (IntKind.u64.wrap (IntKind.u64.wrap (IntKind.u64.wrap x * IntKind.u64.wrap y) + IntKind.u64.wrap o) + c) % 4294967296 = s) ∧ Hd (IntKind.u64.wrap (IntKind.u64.wrap (IntKind.u64.wrap (IntKind.u64.wrap x * IntKind.u64.wrap y) + IntKind.u64.wrap o) + c) / 4294967296 = c2) ∧
      (0 ≤ s ∧ s < 4294967296) ∧ (0 ≤ c2 ∧ c2 < 4294967296) ∧ s + 4294967296 * c2 = x * y + o + c := by
  have hxy := mul_bd hx hy
  rw [u64 (x := x) (by omega) (by omega), u64 (x := y) (by omega) (by omega), u64 (x := o) (by omega) (by omega)]
  generalize x * y = m at *
  rw [u64 (x := m) (by omega) (by omega), u64 (x := m + o) (by omega) (by omega), u64 (x := m + o + c) (by omega) (by omega)]
  exact ⟨_, _, ⟨rfl⟩, ⟨rfl⟩, by omega, by omega, by omega⟩
theorem mul_l1_end (k : Nat) (b O a : List Int) (x c : Int) (i : Nat) (h1 : i + b.length < O.length) (h2 : i < a.length) (h3 : a.length ≤ 70368744177664 ∧ O.length ≤ 70368744177664) (hc : 0 ≤ c ∧ c < 4294967296) :
    nats_Mul.l1 (k + 1) b O (i : Int) x c a (a.length : Int) (i : Int) b (b.length : Int) (b.length : Int) = nats_Mul.l0 k b (O.set (i + b.length) c) a (a.length : Int) ((i + 1 : Nat) : Int) := by
  simp only [nats_Mul.l1]
  have e1 : wrap64 ((i : Int) + (b.length : Int)) = ((i + b.length : Nat) : Int) := wadd (by omega)
  have e2 : wrap64 ((i : Int) + 1) = ((i + 1 : Nat) : Int) := winc (by omega)
  rw [if_neg (by omega), e1, if_pos (by omega), if_pos (by omega), e2, Int.toNat_natCast, show c % 4294967296 = c from by omega]
theorem mul_l1_step (k : Nat) (b O a : List Int) (x c s c2 : Int) (i j : Nat) (h1 : i + j < O.length) (h2 : j < b.length) (h3 : O.length ≤ 70368744177664)
    (es : Hd (IntKind.u64.wrap (IntKind.u64.wrap (IntKind.u64.wrap (IntKind.u64.wrap x * IntKind.u64.wrap (rd b (j : Int))) + IntKind.u64.wrap (rd O ((i + j : Nat) : Int))) + c) % 4294967296 = s))
    (ec : Hd (IntKind.u64.wrap (IntKind.u64.wrap (IntKind.u64.wrap (IntKind.u64.wrap x * IntKind.u64.wrap (rd b (j : Int))) + IntKind.u64.wrap (rd O ((i + j : Nat) : Int))) + c) / 4294967296 = c2)) :
    nats_Mul.l1 (k + 1) b O (i : Int) x c a (a.length : Int) (i : Int) b (b.length : Int) (j : Int) = nats_Mul.l1 k b (O.set (i + j) s) (i : Int) x c2 a (a.length : Int) (i : Int) b (b.length : Int) ((j + 1 : Nat) : Int) := by
  simp only [nats_Mul.l1]
  have e1 : wrap64 ((i : Int) + (j : Int)) = ((i + j : Nat) : Int) := wadd (by omega)
  have e2 : wrap64 ((j : Int) + 1) = ((j + 1 : Nat) : Int) := winc (by omega)
  rw [if_pos (by omega), if_pos (by omega), if_pos (by omega), e1, if_pos (by omega), if_pos (by omega), e2, Int.toNat_natCast, es.out, ec.out]
theorem mul_l1 (a b O0 : List Int) (x : Int) (hb : Wf b) (hx : 0 ≤ x ∧ x < 4294967296) (i : Nat) (hlen : i + b.length < O0.length) (hmax : O0.length ≤ 70368744177664) {r : List Int}
    (hnext : ∀ O : List Int, O.length = O0.length → Wf O → O.drop (i + b.length + 1) = O0.drop (i + b.length + 1) → Hd (val (O.take (i + b.length + 1)) = val (O0.take (i + b.length)) + 4294967296 ^ i * x * val b) →
      Ev (fun k => nats_Mul.l0 k b O a (a.length : Int) ((i + 1 : Nat) : Int)) r) (hia : i < a.length) (hal : a.length ≤ 70368744177664) :
    ∀ (d j : Nat) (O : List Int) (c : Int), d + j = b.length → O.length = O0.length → Wf O → 0 ≤ c ∧ c < 4294967296 → O.drop (i + j) = O0.drop (i + j) →
      Hd (val (O.take (i + j)) + 4294967296 ^ (i + j) * c = val (O0.take (i + j)) + 4294967296 ^ i * x * val (b.take j)) →
      Ev (fun k => nats_Mul.l1 k b O (i : Int) x c a (a.length : Int) (i : Int) b (b.length : Int) (j : Int)) r
  | 0, j, O, c, hj, ho, hw, hc, hd, hv => by
    have ej : j = b.length := by omega
    subst ej
    have hn := hnext (O.set (i + b.length) c) (by simp [ho]) (hw.set _ hc.1 hc.2)
      (by
        rw [drop_set_lt (by omega)]
        have := congrArg (List.drop 1) hd
        rwa [List.drop_drop, List.drop_drop] at this)
      ⟨by
        replace hv := hv.out
        rw [show b.take b.length = b from List.take_length] at hv
        rw [val_take_set (by omega)]; exact hv⟩
    exact Ev.step (fun k => mul_l1_end k b O a x c i (by omega) hia (by omega) hc) hn
  | d + 1, j, O, c, hj, ho, hw, hc, hd, hv => by
    obtain ⟨s, c2, es, ec, hs0, hc2, hs⟩ := mulstep hx (rd_wf' hb j) (rd_wf' hw (i + j)) hc
    have hrd : rd O ((i + j : Nat) : Int) = rd O0 ((i + j : Nat) : Int) := by
      have h1 := rd_drop O (i + j) 0
      have h2 := rd_drop O0 (i + j) 0
      rw [hd] at h1
      rw [h1] at h2
      simpa using h2
    have hv2 : Hd (val ((O.set (i + j) s).take (i + (j + 1))) + 4294967296 ^ (i + (j + 1)) * c2 = val (O0.take (i + (j + 1))) + 4294967296 ^ i * x * val (b.take (j + 1))) := ⟨by
      replace hv := hv.out
      rw [show i + (j + 1) = (i + j) + 1 from rfl, val_take_set (by omega), pow_succ', val_take_succ' O0, val_take_succ' b, ← hrd]
      have hp : (4294967296 : Int) ^ (i + j) = 4294967296 ^ i * 4294967296 ^ j := Int.pow_add _ _ _
      generalize rd O ((i + j : Nat) : Int) = o at *
      generalize rd b (j : Int) = y at *
      rw [hp] at hv ⊢
      generalize (4294967296 : Int) ^ i = P at *
      generalize (4294967296 : Int) ^ j = R at *
      clear es ec hnext hx hrd
      grind⟩
    clear hv hs hrd
    have ih := mul_l1 a b O0 x hb hx i hlen hmax hnext hia hal d (j + 1) (O.set (i + j) s) c2 (by omega) (by simp [ho]) (hw.set _ hs0.1 hs0.2) hc2
      (by
        rw [drop_set_lt (by omega)]
        have := congrArg (List.drop 1) hd
        rwa [List.drop_drop, List.drop_drop] at this) hv2
    exact Ev.step (fun k => mul_l1_step k b O a x c s c2 i j (by omega) (by omega) (by omega) es ec) ih
theorem drop_zeros_val {l : List Int} {n : Nat} (h : ∀ k, n ≤ k → rd l (k : Int) = 0) : val (l.drop n) = 0 := by
  have : l.drop n = List.replicate (l.length - n) 0 := by
    apply List.ext_getElem
    · simp
    · intro k h1 h2
      have h3 := h (n + k) (by omega)
      rw [List.length_drop] at h1
      rw [rd_of (by omega)] at h3
      simp [h3]
  rw [this, val_zeros]
theorem mul_l0 (a b : List Int) (ha : Wf a) (hb : Wf b) (hal : a.length + b.length ≤ 70368744177664) : ∀ (d i : Nat) (O : List Int), d + i = a.length → O.length = a.length + b.length → Wf O → (∀ k, i + b.length ≤ k → rd O (k : Int) = 0) →
    Hd (val (O.take (i + b.length)) = val (a.take i) * val b) → ∃ r, Ev (fun k => nats_Mul.l0 k b O a (a.length : Int) (i : Int)) r ∧ Is r (val a * val b)
  | 0, i, O, hi, ho, hw, hz, hv => by
    have e1 : a.take i = a := List.take_of_length_le (by omega)
    have e2 : O.take (i + b.length) = O := List.take_of_length_le (by omega)
    replace hv := hv.out
    rw [e1, e2] at hv
    refine ⟨trim O, ?_, Is.of hw hv⟩
    clear hv
    refine Ev.step (f := fun k => (nats_cuto.f k O).bind fun t => some t) (fun k => ?_) (Ev.bind (cuto _ (by omega)) (Ev.now _))
    simp only [nats_Mul.l0]
    rw [if_neg (by omega)]
  | d + 1, i, O, hi, ho, hw, hz, hv => by
    have hx := rd_wf' ha i
    have next : ∀ O' : List Int, O'.length = O.length → Wf O' → O'.drop (i + b.length + 1) = O.drop (i + b.length + 1) → Hd (val (O'.take (i + b.length + 1)) = val (O.take (i + b.length)) + 4294967296 ^ i * rd a (i : Int) * val b) →
        ∃ r, Ev (fun k => nats_Mul.l0 k b O' a (a.length : Int) ((i + 1 : Nat) : Int)) r ∧ Is r (val a * val b) := by
      intro O' h1 h2 h3 h4
      refine mul_l0 a b ha hb hal d (i + 1) O' (by omega) (by omega) h2 ?_ ?_
      · intro k hk
        have e := rd_drop O' (i + b.length + 1) (k - (i + b.length + 1))
        have e' := rd_drop O (i + b.length + 1) (k - (i + b.length + 1))
        rw [show i + b.length + 1 + (k - (i + b.length + 1)) = k from by omega] at e e'
        rw [← e, h3, e', hz k (by omega)]
      · refine ⟨?_⟩
        replace hv := hv.out
        rw [show i + 1 + b.length = i + b.length + 1 from by omega, h4.out, hv, val_take_succ' a]
        generalize rd a (i : Int) = x
        generalize (4294967296 : Int) ^ i = P
        grind
    obtain ⟨r0, hr0, hI0⟩ : ∃ r0 : List Int, True ∧ Is r0 (val a * val b) := ⟨trim (limbsOf (val a * val b)), trivial, limbsOf_is (Int.mul_nonneg (val_nonneg ha) (val_nonneg hb))⟩
    refine ⟨r0, ?_, hI0⟩
    have h1 := mul_l1 a b O (rd a (i : Int)) hb hx i (by omega) (by omega) (r := r0)
      (fun O' h1 h2 h3 h4 => by
        obtain ⟨r, hr, hI⟩ := next O' h1 h2 h3 h4
        rw [hI0.eq hI]
        exact hr) (by omega) (by omega) b.length 0 O 0 (by omega) rfl hw (by omega) rfl ⟨by simp [val]⟩
    clear hv next hI0
    refine Ev.step (fun k => ?_) h1
    clear h1
    simp only [nats_Mul.l0]
    rw [if_pos (by omega), if_pos (by omega), if_pos (by omega)]
    rfl
theorem mul (a b : List Int) (ha : Wf a) (hb : Wf b) (hl : a.length ≤ 35184372088832) (hlb : b.length ≤ 35184372088832) : ∃ r, Ev (fun k => nats_Mul.f k a b) r ∧ Is r (val a * val b) := by
  have ia := Is.of ha rfl
  have ib := Is.of hb rfl
  have la := trim_len a
  have lb := trim_len b
  have h0 : ∀ k : Nat, rd (List.replicate ((trim a).length + (trim b).length) 0) (k : Int) = 0 := by
    intro k
    rw [rd_nat]
    simp [List.getD_eq_getElem?_getD, List.getElem?_replicate]
    split <;> rfl
  obtain ⟨r, hr, hI⟩ := mul_l0 (trim a) (trim b) ia.wf ib.wf (by omega) (trim a).length 0 (List.replicate ((trim a).length + (trim b).length) 0) (by omega) (by simp) (Wf.zeros _) (fun k _ => h0 k) ⟨by rw [List.take_replicate, val_zeros]; simp [val]⟩
  rw [ia.val, ib.val] at hI
  refine ⟨r, ?_, hI⟩
  unfold nats_Mul.f
  refine Ev.bind (cut a (by omega)) (Ev.bind (cut b (by omega)) ?_)
  refine Ev.congr (fun k => ?_) hr
  have e : wrap64 (((trim a).length : Int) + ((trim b).length : Int)) = (((trim a).length + (trim b).length : Nat) : Int) := by rw [w64 (by omega) (by omega)]; omega
  rw [e, if_pos (by omega), Int.toNat_natCast, if_pos (by omega)]
  rfl
end Go.Proofs.Ytgffficaoioljaa.PlN
end
section
namespace Go.Proofs.Ytgffficaoioljaa.PlN
open Go.RowKit Go.Proofs.Ytgffficaoioljaa.P Go.Proofs.Ytgffficaoioljaa.Pl Go.Proofs.Ytgffficaoioljaa.PlA Go.Proofs.YtgffficaoioljaaW.PrintWords Go.Proofs.YtgffficaoioljaaW.PrintLast Go.Proofs.YtgffficaoioljaaW.PrintMore
set_option linter.unusedVariables false
theorem wdec {i : Nat} (h : i + 1 ≤ 140737488355328) : wrap64 (((i + 1 : Nat) : Int) - 1) = (i : Int) := by rw [w64 (by omega) (by omega)]; omega
theorem own (l : List Int) (h : l.length < 35184372088832) : sibyllaw01_own.f l = some l := by
  unfold sibyllaw01_own.f
  simp only [Option.bind_some, List.length_nil, List.nil_append]
  rw [if_pos (by omega)]
theorem rtrim_l1_step (k : Nat) (l out : List Int) (n i : Nat) (h : i < n) (hn : n ≤ l.length) (ho : out.length < 35184372088832) (hi : i ≤ 70368744177664) :
    sibylref01_Trim.l1 (k + 1) l (n : Int) out (i : Int) = sibylref01_Trim.l1 k l (n : Int) (out ++ [rd l (i : Int)]) ((i + 1 : Nat) : Int) := by
  simp only [sibylref01_Trim.l1]
  rw [if_pos (by omega), if_pos (by omega), if_pos (by omega), if_pos ho, winc (by omega)]
theorem rtrim_l1 (l : List Int) (n : Nat) (hn : n ≤ l.length) (hn2 : n ≤ 35184372088832) : ∀ (d i : Nat), d + i = n → Ev (fun k => sibylref01_Trim.l1 k l (n : Int) (l.take i) (i : Int)) (l.take n)
  | 0, i, hi => by
    have : i = n := by omega
    subst this
    refine Ev.step (f := fun _ => some (l.take i)) (fun k => ?_) (Ev.now _)
    simp only [sibylref01_Trim.l1]
    rw [if_neg (by omega)]
  | d + 1, i, hi => by
    have ih := rtrim_l1 l n hn hn2 d (i + 1) (by omega)
    rw [take_succ (show i < l.length by omega)] at ih
    exact Ev.step (fun k => rtrim_l1_step k l (l.take i) n i (by omega) hn (by rw [List.length_take]; omega) (by omega)) ih
theorem rtrim_l0_zero (k : Nat) (l : List Int) (n : Nat) (h : n < l.length) (hl : l.length ≤ 70368744177664) (h0 : rd l (n : Int) = 0) : sibylref01_Trim.l0 (k + 1) l ((n + 1 : Nat) : Int) = sibylref01_Trim.l0 k l (n : Int) := by
  simp only [sibylref01_Trim.l0]
  rw [wdec (by omega), if_pos (by omega), if_pos (by omega), if_pos (by omega), if_pos h0]
theorem rtrim_l0_ne (k : Nat) (l : List Int) (n : Nat) (h : n < l.length) (hl : l.length ≤ 70368744177664) (h0 : rd l (n : Int) ≠ 0) : sibylref01_Trim.l0 (k + 1) l ((n + 1 : Nat) : Int) = sibylref01_Trim.j1 k l ((n + 1 : Nat) : Int) := by
  simp only [sibylref01_Trim.l0]
  rw [wdec (by omega), if_pos (by omega), if_pos (by omega), if_pos (by omega), if_neg h0]
theorem rtrim_j1 (l : List Int) (n : Nat) (hn : n ≤ l.length) (hn2 : n ≤ 35184372088832) : Ev (fun k => sibylref01_Trim.j1 k l (n : Int)) (l.take n) := by
  have h := rtrim_l1 l n hn hn2 n 0 (by omega)
  refine Ev.step (fun k => ?_) h
  simp only [sibylref01_Trim.j1]
  rfl
theorem rtrim_l0 (l : List Int) (hl : l.length ≤ 70368744177664) : ∀ n : Nat, n ≤ l.length → (trim (l.take n)).length ≤ 35184372088832 → Ev (fun k => sibylref01_Trim.l0 k l (n : Int)) (trim (l.take n))
  | 0, _, _ => by
    have h := rtrim_j1 l 0 (Nat.zero_le _) (by omega)
    refine Ev.step (fun k => ?_) h
    simp only [sibylref01_Trim.l0]
    rw [if_neg (by omega)]
  | n + 1, h, hn2 => by
    by_cases h0 : rd l (n : Int) = 0
    · rw [trim_take_zero (by omega) h0] at hn2 ⊢
      exact Ev.step (fun k => rtrim_l0_zero k l n (by omega) hl h0) (rtrim_l0 l hl n (by omega) hn2)
    · rw [trim_take_ne (by omega) h0] at hn2 ⊢
      rw [List.length_take] at hn2
      exact Ev.step (fun k => rtrim_l0_ne k l n (by omega) hl h0) (rtrim_j1 l (n + 1) h (by omega))
theorem rtrim (l : List Int) (hl : l.length ≤ 70368744177664) (ht : (trim l).length ≤ 35184372088832) : Ev (fun k => sibylref01_Trim.f k l) (trim l) := by
  have := rtrim_l0 l hl l.length (Nat.le_refl _) (by rw [List.take_length]; exact ht)
  rwa [List.take_length] at this
theorem rtrim' (l : List Int) (hl : l.length ≤ 35184372088832) : Ev (fun k => sibylref01_Trim.f k l) (trim l) :=
  rtrim l (by omega) (Nat.le_trans (trim_len l) hl)
def fitOf (l : List Int) : List Int × Int := if (l.length : Int) > 16 then ([], 4) else (l, 0)
theorem rfit (l : List Int) (hl : l.length ≤ 35184372088832) : Ev (fun k => sibylref01_Fit.f k l) (fitOf (trim l)) := by
  unfold sibylref01_Fit.f
  refine Ev.bind (rtrim' l hl) ?_
  unfold fitOf
  split <;> exact Ev.now _
theorem fit (l : List Int) : limb_fit.f l = some (fitOf l) := by
  unfold limb_fit.f fitOf
  split <;> rfl
theorem rsame_step (k : Nat) (a b : List Int) (i : Nat) (h1 : i < a.length) (h2 : i < b.length) (h3 : a.length ≤ 70368744177664) (h : rd a (i : Int) = rd b (i : Int)) : sibylref01_Same.l0 (k + 1) a b (i : Int) = sibylref01_Same.l0 k a b ((i + 1 : Nat) : Int) := by
  simp only [sibylref01_Same.l0]
  rw [if_pos (by omega), if_pos (by omega), if_pos (by omega), if_pos h, winc (by omega)]
theorem rsame_l0 (a : List Int) (hl : a.length ≤ 70368744177664) : ∀ (d i : Nat), d + i = a.length → Ev (fun k => sibylref01_Same.l0 k a a (i : Int)) true
  | 0, i, hi => by
    refine Ev.step (f := fun _ => some true) (fun k => ?_) (Ev.now _)
    simp only [sibylref01_Same.l0]
    rw [if_neg (by omega)]
  | d + 1, i, hi => Ev.step (fun k => rsame_step k a a i (by omega) (by omega) hl rfl) (rsame_l0 a hl d (i + 1) (by omega))
theorem rsame_refl (a : List Int) (hl : a.length ≤ 70368744177664) : Ev (fun k => sibylref01_Same.f k a a) true := by
  unfold sibylref01_Same.f
  refine Ev.congr (fun k => if_pos rfl) (rsame_l0 a hl a.length 0 (by omega))
theorem tmod_eq {x : Int} (h : 0 ≤ x) : Int.tmod x 4294967296 = x % 4294967296 := Int.tmod_eq_emod_of_nonneg h
theorem tdiv_eq {x : Int} (h : 0 ≤ x) : Int.tdiv x 4294967296 = x / 4294967296 := Int.tdiv_eq_ediv_of_nonneg h
theorem rmulstep {x y o c : Int} (hx : 0 ≤ x ∧ x < 4294967296) (hy : 0 ≤ y ∧ y < 4294967296) (ho : 0 ≤ o ∧ o < 4294967296) (hc : 0 ≤ c ∧ c < 4294967296) :
    ∃ s c2, Hd ((Int.tmod (IntKind.u64.wrap (c + (IntKind.u64.wrap ((IntKind.u64.wrap o) + (IntKind.u64.wrap ((IntKind.u64.wrap x) * (IntKind.u64.wrap y))))))) 4294967296) % 4294967296 = s) ∧
      Hd (IntKind.u64.wrap (Int.tdiv (IntKind.u64.wrap (c + (IntKind.u64.wrap ((IntKind.u64.wrap o) + (IntKind.u64.wrap ((IntKind.u64.wrap x) * (IntKind.u64.wrap y))))))) 4294967296) = c2) ∧
      (0 ≤ s ∧ s < 4294967296) ∧ (0 ≤ c2 ∧ c2 < 4294967296) ∧ s + 4294967296 * c2 = x * y + o + c := by
  have hxy := mul_bd hx hy
  rw [u64 (x := x) (by omega) (by omega), u64 (x := y) (by omega) (by omega), u64 (x := o) (by omega) (by omega)]
  generalize x * y = m at *
  rw [u64 (x := m) (by omega) (by omega), u64 (x := o + m) (by omega) (by omega), u64 (x := c + (o + m)) (by omega) (by omega), tmod_eq (by omega), tdiv_eq (by omega), u64 (x := (c + (o + m)) / 4294967296) (by omega) (by omega)]
  exact ⟨_, _, ⟨rfl⟩, ⟨rfl⟩, by omega, by omega, by omega⟩
theorem times_l1_end (k : Nat) (a b O : List Int) (i : Nat) (c : Int) (h1 : i + b.length < O.length) (h3 : O.length ≤ 70368744177664) (hc : 0 ≤ c ∧ c < 4294967296) :
    sibylref01_Times.l1 (k + 1) a b O (i : Int) c (b.length : Int) = sibylref01_Times.l0 k a b (O.set (i + b.length) c) ((i + 1 : Nat) : Int) := by
  simp only [sibylref01_Times.l1]
  rw [if_neg (by omega), wadd (by omega), if_pos (by omega), if_pos (by omega), winc (by omega), Int.toNat_natCast, show c % 4294967296 = c from by omega]
theorem times_l1_step (k : Nat) (a b O : List Int) (c s c2 : Int) (i j : Nat) (h0 : i < a.length) (h1 : i + j < O.length) (h2 : j < b.length) (h3 : O.length ≤ 70368744177664)
    (es : Hd ((Int.tmod (IntKind.u64.wrap (c + (IntKind.u64.wrap ((IntKind.u64.wrap (rd O ((i + j : Nat) : Int))) + (IntKind.u64.wrap ((IntKind.u64.wrap (rd a (i : Int))) * (IntKind.u64.wrap (rd b (j : Int))))))))) 4294967296) % 4294967296 = s))
    (ec : Hd (IntKind.u64.wrap (Int.tdiv (IntKind.u64.wrap (c + (IntKind.u64.wrap ((IntKind.u64.wrap (rd O ((i + j : Nat) : Int))) + (IntKind.u64.wrap ((IntKind.u64.wrap (rd a (i : Int))) * (IntKind.u64.wrap (rd b (j : Int))))))))) 4294967296) = c2)) :
    sibylref01_Times.l1 (k + 1) a b O (i : Int) c (j : Int) = sibylref01_Times.l1 k a b (O.set (i + j) s) (i : Int) c2 ((j + 1 : Nat) : Int) := by
  simp only [sibylref01_Times.l1]
  rw [if_pos (by omega), wadd (by omega), if_pos (by omega), if_pos (by omega), if_pos (by omega), if_pos (by omega), if_pos (by omega), winc (by omega), Int.toNat_natCast, es.out, ec.out]
theorem times_l1 (a b O0 : List Int) (i : Nat) (ha : Wf a) (hb : Wf b) (hia : i < a.length) (hlen : i + b.length < O0.length) (hmax : O0.length ≤ 70368744177664) {r : List Int}
    (hnext : ∀ O : List Int, O.length = O0.length → Wf O → O.drop (i + b.length + 1) = O0.drop (i + b.length + 1) → Hd (val (O.take (i + b.length + 1)) = val (O0.take (i + b.length)) + 4294967296 ^ i * rd a (i : Int) * val b) →
      Ev (fun k => sibylref01_Times.l0 k a b O ((i + 1 : Nat) : Int)) r) :
    ∀ (d j : Nat) (O : List Int) (c : Int), d + j = b.length → O.length = O0.length → Wf O → 0 ≤ c ∧ c < 4294967296 → O.drop (i + j) = O0.drop (i + j) →
      Hd (val (O.take (i + j)) + 4294967296 ^ (i + j) * c = val (O0.take (i + j)) + 4294967296 ^ i * rd a (i : Int) * val (b.take j)) →
      Ev (fun k => sibylref01_Times.l1 k a b O (i : Int) c (j : Int)) r
  | 0, j, O, c, hj, ho, hw, hc, hd, hv => by
    have ej : j = b.length := by omega
    subst ej
    have hn := hnext (O.set (i + b.length) c) (by simp [ho]) (hw.set _ hc.1 hc.2)
      (by
        rw [drop_set_lt (by omega)]
        have := congrArg (List.drop 1) hd
        rwa [List.drop_drop, List.drop_drop] at this)
      ⟨by
        replace hv := hv.out
        rw [show b.take b.length = b from List.take_length] at hv
        rw [val_take_set (by omega)]; exact hv⟩
    exact Ev.step (fun k => times_l1_end k a b O i c (by omega) (by omega) hc) hn
  | d + 1, j, O, c, hj, ho, hw, hc, hd, hv => by
    obtain ⟨s, c2, es, ec, hs0, hc2, hs⟩ := rmulstep (rd_wf' ha i) (rd_wf' hb j) (rd_wf' hw (i + j)) hc
    have hrd : rd O ((i + j : Nat) : Int) = rd O0 ((i + j : Nat) : Int) := by
      have h1 := rd_drop O (i + j) 0
      have h2 := rd_drop O0 (i + j) 0
      rw [hd] at h1
      rw [h1] at h2
      simpa using h2
    have hv2 : Hd (val ((O.set (i + j) s).take (i + (j + 1))) + 4294967296 ^ (i + (j + 1)) * c2 = val (O0.take (i + (j + 1))) + 4294967296 ^ i * rd a (i : Int) * val (b.take (j + 1))) := ⟨by
      replace hv := hv.out
      rw [show i + (j + 1) = (i + j) + 1 from rfl, val_take_set (by omega), pow_succ', val_take_succ' O0, val_take_succ' b, ← hrd]
      have hp : (4294967296 : Int) ^ (i + j) = 4294967296 ^ i * 4294967296 ^ j := Int.pow_add _ _ _
      generalize rd O ((i + j : Nat) : Int) = o at *
      generalize rd b (j : Int) = y at *
      generalize rd a (i : Int) = x at *
      rw [hp] at hv ⊢
      generalize (4294967296 : Int) ^ i = P at *
      generalize (4294967296 : Int) ^ j = R at *
      clear es ec hnext hrd
      grind⟩
    clear hv hs hrd
    have ih := times_l1 a b O0 i ha hb hia hlen hmax hnext d (j + 1) (O.set (i + j) s) c2 (by omega) (by simp [ho]) (hw.set _ hs0.1 hs0.2) hc2
      (by
        rw [drop_set_lt (by omega)]
        have := congrArg (List.drop 1) hd
        rwa [List.drop_drop, List.drop_drop] at this) hv2
    exact Ev.step (fun k => times_l1_step k a b O c s c2 i j hia (by omega) (by omega) (by omega) es ec) ih
theorem times_l0_end (k : Nat) (a b O : List Int) : sibylref01_Times.l0 (k + 1) a b O (a.length : Int) = (sibylref01_Trim.f k O).bind fun t => some t := by
  simp only [sibylref01_Times.l0]
  rw [if_neg (by omega)]
theorem times_l0_step (k : Nat) (a b O : List Int) (i : Nat) (h : i < a.length) : sibylref01_Times.l0 (k + 1) a b O (i : Int) = sibylref01_Times.l1 k a b O (i : Int) 0 0 := by
  simp only [sibylref01_Times.l0]
  rw [if_pos (by omega)]
theorem times_l0 (a b : List Int) (ha : Wf a) (hb : Wf b) (hal : a.length + b.length + 1 ≤ 35184372088832) : ∀ (d i : Nat) (O : List Int), d + i = a.length → O.length = a.length + b.length + 1 → Wf O → (∀ k, i + b.length ≤ k → rd O (k : Int) = 0) →
    Hd (val (O.take (i + b.length)) = val (a.take i) * val b) → ∃ r, Ev (fun k => sibylref01_Times.l0 k a b O (i : Int)) r ∧ Is r (val a * val b)
  | 0, i, O, hi, ho, hw, hz, hv => by
    have ei : i = a.length := by omega
    subst ei
    have e1 : val (O.drop (a.length + b.length)) = 0 := drop_zeros_val hz
    have e3 : val O = val a * val b := by
      rw [val_cut O (a.length + b.length) (by omega), e1, hv.out, List.take_length]; simp
    exact ⟨trim O, Ev.step (fun k => times_l0_end k a b O) (Ev.bind (rtrim' O (by omega)) (Ev.now _)), Is.of hw e3⟩
  | d + 1, i, O, hi, ho, hw, hz, hv => by
    have next : ∀ O' : List Int, O'.length = O.length → Wf O' → O'.drop (i + b.length + 1) = O.drop (i + b.length + 1) → Hd (val (O'.take (i + b.length + 1)) = val (O.take (i + b.length)) + 4294967296 ^ i * rd a (i : Int) * val b) →
        ∃ r, Ev (fun k => sibylref01_Times.l0 k a b O' ((i + 1 : Nat) : Int)) r ∧ Is r (val a * val b) := by
      intro O' h1 h2 h3 h4
      refine times_l0 a b ha hb hal d (i + 1) O' (by omega) (by omega) h2 ?_ ?_
      · intro k hk
        have e := rd_drop O' (i + b.length + 1) (k - (i + b.length + 1))
        have e' := rd_drop O (i + b.length + 1) (k - (i + b.length + 1))
        rw [show i + b.length + 1 + (k - (i + b.length + 1)) = k from by omega] at e e'
        rw [← e, h3, e', hz k (by omega)]
      · refine ⟨?_⟩
        replace hv := hv.out
        rw [show i + 1 + b.length = i + b.length + 1 from by omega, h4.out, hv, val_take_succ' a]
        generalize rd a (i : Int) = x
        generalize (4294967296 : Int) ^ i = P
        grind
    obtain ⟨r0, hI0⟩ : ∃ r0 : List Int, Is r0 (val a * val b) := ⟨trim (limbsOf (val a * val b)), limbsOf_is (Int.mul_nonneg (val_nonneg ha) (val_nonneg hb))⟩
    refine ⟨r0, ?_, hI0⟩
    have h1 := times_l1 a b O i ha hb (by omega) (by omega) (by omega) (r := r0)
      (fun O' h1 h2 h3 h4 => by
        obtain ⟨r, hr, hI⟩ := next O' h1 h2 h3 h4
        rw [hI0.eq hI]
        exact hr) b.length 0 O 0 (by omega) rfl hw (by omega) rfl ⟨by simp [val]⟩
    exact Ev.step (fun k => times_l0_step k a b O i (by omega)) h1
theorem times (a b : List Int) (ha : Wf a) (hb : Wf b) (hl : a.length + b.length + 1 ≤ 35184372088832) : ∃ r, Ev (fun k => sibylref01_Times.f k a b) r ∧ Is r (val a * val b) := by
  have ia := Is.of ha rfl
  have ib := Is.of hb rfl
  have la := trim_len a
  have lb := trim_len b
  have h0 : ∀ k : Nat, rd (List.replicate ((trim a).length + (trim b).length + 1) 0) (k : Int) = 0 := by
    intro k
    rw [rd_nat]
    simp [List.getD_eq_getElem?_getD, List.getElem?_replicate]
    split <;> rfl
  obtain ⟨r, hr, hI⟩ := times_l0 (trim a) (trim b) ia.wf ib.wf (by omega) (trim a).length 0 (List.replicate ((trim a).length + (trim b).length + 1) 0) (by omega) (by simp) (Wf.zeros _) (fun k _ => h0 k) ⟨by rw [List.take_replicate, val_zeros]; simp [val]⟩
  rw [ia.val, ib.val] at hI
  refine ⟨r, ?_, hI⟩
  unfold sibylref01_Times.f
  refine Ev.bind (rtrim' a (by omega)) (Ev.bind (rtrim' b (by omega)) ?_)
  refine Ev.congr (fun k => ?_) hr
  rw [wadd (by omega), winc (by omega), if_pos (by omega), Int.toNat_natCast, if_pos (by omega)]
  rfl
end Go.Proofs.Ytgffficaoioljaa.PlN
end
