import Derived.Test.YtgffficaoioljaaRk16
import Derived.Test.YtgffficaoioljaaRk19
import Derived.Test.YtgffficaoioljaaRk17
import Derived.Test.YtgffficaoioljaaRk14
import Derived.Test.YtgffficaoioljaaRk11
import Derived.Test.YtgffficaoioljaaRk12
section
namespace Go.Proofs.Ytgffficaoioljaa.PlN
open Go.RowKit Go.Proofs.Ytgffficaoioljaa.P Go.Proofs.Ytgffficaoioljaa.Pl Go.Proofs.Ytgffficaoioljaa.PlA Go.Proofs.YtgffficaoioljaaW.PrintWords Go.Proofs.YtgffficaoioljaaW.PrintLast Go.Proofs.YtgffficaoioljaaW.PrintMore
set_option linter.unusedVariables false
theorem digitat_of (k : Nat) (U V R : List Int) (c : Nat) (d : Int) (h1 : c + V.length + 1 ≤ U.length) (h2 : 2 ≤ V.length ∧ V.length ≤ 70368744177664) (h : nats_digit.f k ((U.take (c + V.length + 1)).drop c) V = some (d, R)) :
  nats_digitat.f k U (c : Int) ((c + V.length + 1 : Nat) : Int) V = some (d, U.take c ++ R ++ U.drop (c + V.length + 1)) := by
 unfold nats_digitat.f
 rw [if_pos (by omega), Int.toNat_natCast, Int.toNat_natCast, h]
 rfl
theorem qr_step (k : Nat) (s : Int) (U V q : List Int) (c : Nat) (hU : c + V.length + 1 ≤ U.length) (hc : c < q.length) (hl : U.length ≤ 70368744177664) :
  nats_QuoRem.l0 (k + 1) s V U q (c : Int) = (nats_digitat.f k U (c : Int) ((c + V.length + 1 : Nat) : Int) V).bind fun bt => nats_QuoRem.l0 k s V bt.2 (q.set c bt.1) ((c : Int) - 1) := by
 simp only [nats_QuoRem.l0]
 have e : wrap64 (wrap64 ((c : Int) + (V.length : Int)) + 1) = ((c + V.length + 1 : Nat) : Int) := by rw [wadd (by omega), winc (by omega)]
 rw [e, if_pos (by omega), if_pos (by omega), if_pos (by omega), if_pos (by omega), w64 (x := (c : Int) - 1) (by omega) (by omega), Int.toNat_natCast]
 congr 1
 funext bt
 rw [if_pos (by omega)]
theorem qr_end (k : Nat) (s : Int) (U V q : List Int) : nats_QuoRem.l0 (k + 1) s V U q (-1) = (nats_cuto.f k q).bind fun t261 => (nats_Shr.f k U s).bind fun t264 => some (t261, t264) := by
 simp only [nats_QuoRem.l0]
 rw [if_neg (by omega)]
theorem qr_l0 (A : Int) (V : List Int) (s m : Nat) (hs : s < 32) (hV : Wf V) (hn : V.length = m + 2) (htop : 2147483648 ≤ rd V ((m + 1 : Nat) : Int)) : ∀ (c : Nat) (U q : List Int), c + V.length ≤ U.length → U.length ≤ 35184372088832 → c ≤ q.length → q.length ≤ 70368744177664 → Wf U → Wf q →
  val (U.drop c) < val V → Hd (val U + 4294967296 ^ c * val (q.drop c) * val V = A) →
  ∃ q' r, Ev (fun k => nats_QuoRem.l0 k (s : Int) V U q ((c : Int) - 1)) (q', r) ∧ Is q' (A / val V) ∧ Is r (A % val V / 2 ^ s)
 | 0, U, q, hU, hl, hq, hql, hUw, hqw, hlt, hv => by
  obtain ⟨r, hr, hI⟩ := shrN U s hs hUw hl
  have h := hv.out
  rw [List.drop_zero] at hlt
  rw [List.drop_zero, Int.pow_zero, Int.one_mul] at h
  have hU0 := val_nonneg hUw
  have e1 : A / val V = val q := by rw [← h, Int.add_mul_ediv_right _ _ (by omega), Int.ediv_eq_zero_of_lt hU0 hlt, Int.zero_add]
  have e2 : A % val V = val U := by rw [← h, Int.add_mul_emod_self_right, Int.emod_eq_of_lt hU0 hlt]
  rw [e1, e2]
  exact ⟨trim q, r, Ev.step (fun k => qr_end k s U V q) (Ev.bind (cuto q (by omega)) (Ev.bind hr (Ev.now _))), Is.of hqw rfl, hI⟩
 | c + 1, U, q, hU, hl, hq, hql, hUw, hqw, hlt, hv => by
  have hsw : Wf ((U.take (c + V.length + 1)).drop c) := (hUw.take _).drop _
  have hsl : ((U.take (c + V.length + 1)).drop c).length = m + 3 := by rw [List.length_drop, List.length_take]; omega
  have hVl := val_lt hV
  have e1 : val (U.drop (c + 1)) = val ((U.drop (c + 1)).take V.length) + 4294967296 ^ V.length * val (U.drop (c + 1 + V.length)) := by
   have := val_cut (U.drop (c + 1)) V.length (by rw [List.length_drop]; omega)
   rwa [List.drop_drop] at this
  have hz : val (U.drop (c + 1 + V.length)) = 0 := by
   have h1 := val_nonneg (hUw.drop (c + 1 + V.length))
   have h2 := val_nonneg ((hUw.drop (c + 1)).take V.length)
   rcases Int.lt_or_le 0 (val (U.drop (c + 1 + V.length))) with h3 | h3
   ·have : 4294967296 ^ V.length * 1 ≤ 4294967296 ^ V.length * val (U.drop (c + 1 + V.length)) := Int.mul_le_mul_of_nonneg_left h3 (Int.le_of_lt (pow_pos' _))
    omega
   ·omega
  have e2 : val (U.drop c) = val ((U.take (c + V.length + 1)).drop c) := by
   have h1 := val_cut (U.drop c) (V.length + 1) (by rw [List.length_drop]; omega)
   rw [List.drop_drop, show c + (V.length + 1) = c + 1 + V.length from by omega, hz, Int.mul_zero, Int.add_zero, List.take_drop] at h1
   exact h1
  have e3 := val_drop_rd (l := U) (i := c) (by omega)
  have hx := rd_wf' hUw c
  have hseg : val ((U.take (c + V.length + 1)).drop c) < 4294967296 * val V := by rw [← e2, e3]; omega
  obtain ⟨R, hR, hRw, hRl, hRv⟩ := digitN ((U.take (c + V.length + 1)).drop c) V m hsw hV hn hsl (by omega) htop hseg
  have hVpos : 0 < val V := by have := val_nonneg hsw; omega
  have hR0 := Int.emod_lt_of_pos (val ((U.take (c + V.length + 1)).drop c)) hVpos
  have hd0 : 0 ≤ val ((U.take (c + V.length + 1)).drop c) / val V := Int.ediv_nonneg (val_nonneg hsw) (by omega)
  have hd1 : val ((U.take (c + V.length + 1)).drop c) / val V < 4294967296 := Int.ediv_lt_of_lt_mul hVpos hseg
  have hdm := Int.emod_def (val ((U.take (c + V.length + 1)).drop c)) (val V)
  have e4 := val_cut U c (by omega)
  rw [← e2] at hR hRv hd0 hd1 hdm hR0
  have htl : (U.take c).length = c := by rw [List.length_take]; omega
  have hUl : (U.take c ++ R ++ U.drop (c + V.length + 1)).length = U.length := by
   rw [List.length_append, List.length_append, htl, hRl, List.length_drop]; omega
  have hdr : val ((U.take c ++ R ++ U.drop (c + V.length + 1)).drop c) = val R := by
   rw [List.append_assoc, List.drop_append_of_le_length (by omega), List.drop_of_length_le (by omega), List.nil_append, val_append, show c + V.length + 1 = c + 1 + V.length from by omega, hz, Int.mul_zero, Int.add_zero]
  have hval : val (U.take c ++ R ++ U.drop (c + V.length + 1)) = val (U.take c) + 4294967296 ^ c * val R := by
   have := val_cut (U.take c ++ R ++ U.drop (c + V.length + 1)) c (by omega)
   rw [hdr, List.append_assoc, List.take_append_of_le_length (by omega), List.take_take, Nat.min_self] at this
   rw [List.append_assoc]
   exact this
  obtain ⟨q', r, h1, h2, h3⟩ := qr_l0 A V s m hs hV hn htop c (U.take c ++ R ++ U.drop (c + V.length + 1)) (q.set c (val (U.drop c) / val V)) (by omega) (by omega) (by simp; omega) (by simp; omega)
   (((hUw.take c).append hRw).append (hUw.drop _)) (hqw.set _ hd0 hd1) (by rw [hdr, hRv]; exact hR0)
   ⟨by
    have h := hv.out
    rw [hval, hRv, hdm, val_drop_rd (l := q.set c (val (U.drop c) / val V)) (by simp; omega), rd_set_self (by omega), drop_set_lt (by omega)]
    rw [e4, pow_succ'] at h
    generalize val (U.drop c) / val V = d at *
    generalize val (U.drop c) = D at *
    generalize val (q.drop (c + 1)) = Q at *
    generalize val (U.take c) = T at *
    generalize val V = v at *
    generalize (4294967296 : Int) ^ c = P at *
    clear hR hRv hdm hdr hval hlt e1 e2 e3 hz hseg
    grind⟩
  refine ⟨q', r, ?_, h2, h3⟩
  rw [show ((c + 1 : Nat) : Int) - 1 = (c : Int) from by omega]
  have hat : Ev (fun k => nats_digitat.f k U (c : Int) ((c + V.length + 1 : Nat) : Int) V) (val (U.drop c) / val V, U.take c ++ R ++ U.drop (c + V.length + 1)) := by
   obtain ⟨K, hK⟩ := hR
   exact ⟨K, fun k hk => digitat_of k U V R c _ (by omega) (by omega) (hK k hk)⟩
  exact Ev.step (fun k => qr_step k s U V q c (by omega) (by omega) (by omega)) (Ev.bind hat h1)
theorem lz32 {x : Int} (h : 1 ≤ x ∧ x < 4294967296) : ∃ s : Nat, s < 32 ∧ bits_LeadingZeros32.f x = some (s : Int) ∧ 2147483648 ≤ x * 2 ^ s ∧ x * 2 ^ s < 4294967296 := by
 obtain ⟨n, rfl⟩ := Int.eq_ofNat_of_zero_le (show 0 ≤ x by omega)
 have hn : n ≠ 0 := by omega
 obtain ⟨h1, h2, h3⟩ := Lib.bitLenAux_bounds 64 n (by omega) hn
 have h4 := bitLen_bd (x := (n : Int)) (by omega)
 rw [Int.toNat_natCast] at h4
 have e : Lib.bitLen n = Lib.bitLenAux 64 n := rfl
 rw [← e] at h1 h2 h3
 refine ⟨32 - Lib.bitLen n, by omega, ?_, ?_, ?_⟩
 ·unfold bits_LeadingZeros32.f
  rw [if_pos (by omega), Int.toNat_natCast]
  congr 1
  omega
 ·have : 2 ^ (Lib.bitLen n - 1) * 2 ^ (32 - Lib.bitLen n) ≤ n * 2 ^ (32 - Lib.bitLen n) := Nat.mul_le_mul_right _ h2
  rw [← Nat.pow_add, show Lib.bitLen n - 1 + (32 - Lib.bitLen n) = 31 from by omega] at this
  have h5 : ((2 ^ 31 : Nat) : Int) ≤ ((n * 2 ^ (32 - Lib.bitLen n) : Nat) : Int) := Int.ofNat_le.2 this
  simpa using h5
 ·have : n * 2 ^ (32 - Lib.bitLen n) < 2 ^ Lib.bitLen n * 2 ^ (32 - Lib.bitLen n) := Nat.mul_lt_mul_of_pos_right h3 (Nat.pow_pos (by decide))
  rw [← Nat.pow_add, show Lib.bitLen n + (32 - Lib.bitLen n) = 32 from by omega] at this
  have h5 : ((n * 2 ^ (32 - Lib.bitLen n) : Nat) : Int) < ((2 ^ 32 : Nat) : Int) := Int.ofNat_lt.2 this
  simpa using h5
theorem norm_top (B V : List Int) (m s : Nat) (hs : s < 32) (hB : Wf B) (hn : B.length = m + 2) (hV : Is V (val B * 2 ^ s)) (h1 : 2147483648 ≤ rd B ((m + 1 : Nat) : Int) * 2 ^ s) (h2 : rd B ((m + 1 : Nat) : Int) * 2 ^ s < 4294967296) :
  V.length = m + 2 ∧ 2147483648 ≤ rd V ((m + 1 : Nat) : Int) := by
 have hp := pow_bd (s := s) (by omega)
 have hsp := pow_split (s := s) (by omega)
 have ht := (pow_bd (s := 32 - s) (by omega)).1
 have eB : val B = val (B.take (m + 1)) + 4294967296 ^ (m + 1) * rd B ((m + 1 : Nat) : Int) := by
  rw [← val_take_succ' B, List.take_of_length_le (by omega)]
 have hW := take_lt hB (m + 1) (by omega)
 have hP := pow_pos' (m + 1)
 have hlo : 4294967296 ^ (m + 1) * 2147483648 ≤ val B * 2 ^ s := by
  have : 4294967296 ^ (m + 1) * 2147483648 ≤ 4294967296 ^ (m + 1) * (rd B ((m + 1 : Nat) : Int) * 2 ^ s) := Int.mul_le_mul_of_nonneg_left h1 (Int.le_of_lt hP)
  have h3 : 0 ≤ val (B.take (m + 1)) * 2 ^ s := Int.mul_nonneg hW.1 (by omega)
  rw [eB, Int.add_mul, Int.mul_assoc]
  omega
 have hhi : val B * 2 ^ s < 4294967296 ^ (m + 2) := by
  have h3 : rd B ((m + 1 : Nat) : Int) + 1 ≤ 2 ^ (32 - s) := by
   rcases Int.lt_or_le (rd B ((m + 1 : Nat) : Int)) (2 ^ (32 - s)) with h | h
   ·omega
   ·have : 2 ^ (32 - s) * 2 ^ s ≤ rd B ((m + 1 : Nat) : Int) * 2 ^ s := Int.mul_le_mul_of_nonneg_right h (by omega)
    rw [Int.mul_comm, hsp] at this
    omega
  have h4 : (rd B ((m + 1 : Nat) : Int) + 1) * 2 ^ s ≤ 4294967296 := by
   have : (rd B ((m + 1 : Nat) : Int) + 1) * 2 ^ s ≤ 2 ^ (32 - s) * 2 ^ s := Int.mul_le_mul_of_nonneg_right h3 (by omega)
   rwa [Int.mul_comm (2 ^ (32 - s)), hsp] at this
  have h5 : val B < 4294967296 ^ (m + 1) * (rd B ((m + 1 : Nat) : Int) + 1) := by rw [eB, Int.mul_add, Int.mul_one]; omega
  have h6 : val B * 2 ^ s < 4294967296 ^ (m + 1) * (rd B ((m + 1 : Nat) : Int) + 1) * 2 ^ s := Int.mul_lt_mul_of_pos_right h5 (by omega)
  have h7 : 4294967296 ^ (m + 1) * ((rd B ((m + 1 : Nat) : Int) + 1) * 2 ^ s) ≤ 4294967296 ^ (m + 1) * 4294967296 := Int.mul_le_mul_of_nonneg_left h4 (Int.le_of_lt hP)
  rw [Int.mul_assoc] at h6
  rw [show m + 2 = m + 1 + 1 from rfl, pow_succ']
  omega
 have hl1 := hV.len hhi
 have hl2 : m + 2 ≤ V.length := by
  rcases Nat.lt_or_ge V.length (m + 2) with h | h
  ·have h3 := hV.lt
   have h4 := pow_le (m := V.length) (n := m + 1) (by omega)
   omega
  ·exact h
 have hl : V.length = m + 2 := by omega
 refine ⟨hl, ?_⟩
 have eV : val V = val (V.take (m + 1)) + 4294967296 ^ (m + 1) * rd V ((m + 1 : Nat) : Int) := by
  rw [← val_take_succ' V, List.take_of_length_le (by omega)]
 have hX := take_lt hV.wf (m + 1) (by omega)
 rw [hV.val] at eV
 rcases Int.lt_or_le (rd V ((m + 1 : Nat) : Int)) 2147483648 with h | h
 ·have : 4294967296 ^ (m + 1) * rd V ((m + 1 : Nat) : Int) ≤ 4294967296 ^ (m + 1) * 2147483647 := Int.mul_le_mul_of_nonneg_left (by omega) (Int.le_of_lt hP)
  have h3 : (4294967296 : Int) ^ (m + 1) * 2147483648 = 4294967296 ^ (m + 1) * 2147483647 + 4294967296 ^ (m + 1) := by
   generalize (4294967296 : Int) ^ (m + 1) = P
   omega
  omega
 ·exact h
theorem qr_main (a b V X : List Int) (m s : Nat) (hs : s < 32) (ia : Is a (val a)) (ib : Is b (val b)) (hn : b.length = m + 2) (hba : b.length ≤ a.length) (hl : a.length ≤ 35184372088830) (hV : Is V (val b * 2 ^ s)) (hVn : V.length = m + 2) (htop : 2147483648 ≤ rd V ((m + 1 : Nat) : Int)) (hX : Is X (val a * 2 ^ s)) :
  ∃ q r, Ev (fun k => nats_QuoRem.l0 k (s : Int) V (X.take (a.length + 1) ++ (List.replicate (a.length + 1) (0 : Int)).drop X.length) (List.replicate (a.length - b.length + 1) 0) (((a.length - b.length + 1 : Nat) : Int) - 1)) (q, r) ∧ Is q (val a / val b) ∧ Is r (val a % val b) := by
 have hp := pow_bd (s := s) (by omega)
 have ha := ia.lt
 have hb := ib.ge (by intro e; rw [e] at hn; simp at hn)
 have hXl : X.length ≤ a.length + 1 := by
  refine hX.len ?_
  have h1 : val a * 2 ^ s < 4294967296 ^ a.length * 2 ^ s := Int.mul_lt_mul_of_pos_right ha (by omega)
  have h2 : (4294967296 : Int) ^ a.length * 2 ^ s ≤ 4294967296 ^ a.length * 4294967296 := Int.mul_le_mul_of_nonneg_left hp.2 (Int.le_of_lt (pow_pos' _))
  rw [pow_succ']
  omega
 rw [List.take_of_length_le hXl, List.drop_replicate]
 have hUl : (X ++ List.replicate (a.length + 1 - X.length) (0 : Int)).length = a.length + 1 := by rw [List.length_append, List.length_replicate]; omega
 have hUw : Wf (X ++ List.replicate (a.length + 1 - X.length) (0 : Int)) := hX.wf.append (Wf.zeros _)
 have hUv : val (X ++ List.replicate (a.length + 1 - X.length) (0 : Int)) = val a * 2 ^ s := by rw [val_append, val_zeros, hX.val]; simp
 generalize X ++ List.replicate (a.length + 1 - X.length) (0 : Int) = U at *
 have hb0 : 0 < val b := by have := pow_pos' (b.length - 1); omega
 obtain ⟨q, r, h1, h2, h3⟩ := qr_l0 (val a * 2 ^ s) V s m hs hV.wf hVn htop (a.length - b.length + 1) U (List.replicate (a.length - b.length + 1) 0) (by omega) (by omega) (by simp) (by simp; omega) hUw (Wf.zeros _)
  (by
   have e := val_cut U (a.length - b.length + 1) (by omega)
   have h4 := val_nonneg (hUw.take (a.length - b.length + 1))
   have h5 : val a * 2 ^ s < 4294967296 ^ a.length * 2 ^ s := Int.mul_lt_mul_of_pos_right ha (by omega)
   have h6 : 4294967296 ^ (b.length - 1) * 2 ^ s ≤ val b * 2 ^ s := Int.mul_le_mul_of_nonneg_right hb (by omega)
   have h7 : 4294967296 ^ (a.length - b.length + 1) * (4294967296 ^ (b.length - 1) * 2 ^ s) ≤ 4294967296 ^ (a.length - b.length + 1) * (val b * 2 ^ s) := Int.mul_le_mul_of_nonneg_left h6 (Int.le_of_lt (pow_pos' _))
   rw [← Int.mul_assoc, ← Int.pow_add, show a.length - b.length + 1 + (b.length - 1) = a.length from by omega] at h7
   rw [hUv] at e
   have h8 : 4294967296 ^ (a.length - b.length + 1) * val (U.drop (a.length - b.length + 1)) < 4294967296 ^ (a.length - b.length + 1) * (val b * 2 ^ s) := by omega
   rw [hV.val]
   exact Int.lt_of_mul_lt_mul_left h8 (Int.le_of_lt (pow_pos' _)))
  ⟨by rw [List.drop_replicate, val_zeros, hUv]; simp⟩
 rw [hV.val] at h2 h3
 rw [Int.mul_ediv_mul_of_pos_left _ _ (by omega)] at h2
 rw [Int.mul_comm (val a), Int.mul_comm (val b), Int.mul_emod_mul_of_pos _ _ (by omega), Int.mul_ediv_cancel_left _ (by omega)] at h3
 exact ⟨q, r, h1, h2, h3⟩
theorem qr_go (a b ta tb V X : List Int) (m s : Nat) (t : Int) (R : List Int × List Int) (hl : ta.length ≤ 35184372088830) (hba : tb.length ≤ ta.length) (hm : tb.length = m + 2) (hca : Ev (fun k => nats_cut.f k a) ta) (hcb : Ev (fun k => nats_cut.f k b) tb) (hc : Ev (fun k => nats_Cmp.f k ta tb) t) (ht : ¬ t < 0)
  (hz : bits_LeadingZeros32.f (rd tb ((m + 1 : Nat) : Int)) = some (s : Int)) (hV : Ev (fun k => nats_Shl.f k tb (s : Int)) V) (hX : Ev (fun k => nats_Shl.f k ta (s : Int)) X)
  (h4 : Ev (fun k => nats_QuoRem.l0 k (s : Int) V (X.take (ta.length + 1) ++ (List.replicate (ta.length + 1) (0 : Int)).drop X.length) (List.replicate (ta.length - tb.length + 1) 0) (((ta.length - tb.length + 1 : Nat) : Int) - 1)) R) : Ev (fun k => nats_QuoRem.f k a b) R := by
 have e1 : wrap64 ((tb.length : Int) - 1) = ((m + 1 : Nat) : Int) := by rw [w64 (by omega) (by omega)]; omega
 have e2 : wrap64 ((ta.length : Int) + 1) = ((ta.length + 1 : Nat) : Int) := winc (by omega)
 have e3 : wrap64 (wrap64 ((ta.length : Int) - (tb.length : Int)) + 1) = ((ta.length - tb.length + 1 : Nat) : Int) := by rw [w64 (x := _ - _) (by omega) (by omega), w64 (by omega) (by omega)]; omega
 have e4 : wrap64 (((ta.length - tb.length + 1 : Nat) : Int) - 1) = ((ta.length - tb.length + 1 : Nat) : Int) - 1 := w64 (by omega) (by omega)
 have c1 : ¬ (tb.length : Int) = 1 := by omega
 have c2 : (0 : Int) ≤ ((m + 1 : Nat) : Int) := by omega
 have c3 : ((m + 1 : Nat) : Int) < (tb.length : Int) := by omega
 have c4 : (0 : Int) ≤ ((ta.length + 1 : Nat) : Int) := by omega
 have c5 : ta.length + 1 ≤ 70368744177664 := by omega
 have c6 : (0 : Int) ≤ ((ta.length - tb.length + 1 : Nat) : Int) := by omega
 have c7 : ta.length - tb.length + 1 ≤ 70368744177664 := by omega
 unfold nats_QuoRem.f
 refine Ev.bind hca (Ev.bind hcb (Ev.bind hc ?_))
 rw [e1, e2, e3, Int.toNat_natCast, Int.toNat_natCast, hz]
 refine Ev.congr (fun k => if_neg ht) (Ev.congr (fun k => if_neg c1) (Ev.congr (fun k => if_pos c2) (Ev.congr (fun k => if_pos c3) ?_)))
 simp only [Option.bind_some]
 refine Ev.bind hV (Ev.congr (fun k => if_pos c4) (Ev.congr (fun k => if_pos c5) ?_))
 refine Ev.bind hX (Ev.congr (fun k => if_pos c6) (Ev.congr (fun k => if_pos c7) ?_))
 refine Ev.congr (fun k => ?_) h4
 rw [List.length_replicate, List.length_replicate, e4]
theorem quorem (a b : List Int) (ha : Wf a) (hb : Wf b) (hl : a.length ≤ 35184372088830) (hlb : b.length ≤ 35184372088830) (hb0 : val b ≠ 0) : ∃ q r, Ev (fun k => nats_QuoRem.f k a b) (q, r) ∧ Is q (val a / val b) ∧ Is r (val a % val b) := by
 have ia := Is.of ha rfl
 have ib := Is.of hb rfl
 have la := trim_len a
 have lb := trim_len b
 have hbn := val_nonneg hb
 have han := val_nonneg ha
 have hc := cmp (trim a) (trim b) ia.wf ib.wf (by omega) (by omega)
 rw [ia.val, ib.val] at hc
 have hbl : (trim b).length ≠ 0 := fun e => hb0 (ib.zero_iff.1 (List.eq_nil_of_length_eq_zero e))
 unfold nats_QuoRem.f
 by_cases h1 : val a < val b
 ·refine ⟨[], trim a, Ev.bind (cut a (by omega)) (Ev.bind (cut b (by omega)) (Ev.bind hc (Ev.congr (fun k => if_pos (sgn_neg.2 h1)) ?_))), ?_, ?_⟩
  ·have ht := natsTrim (trim a) (by omega)
   rw [trim_trim] at ht
   exact Ev.bind ht (Ev.now _)
  ·rw [Int.ediv_eq_zero_of_lt han h1]; exact Is.nil
  ·rw [Int.emod_eq_of_lt han h1]; exact ia
 ·have hba : (trim b).length ≤ (trim a).length := by
   rcases Nat.lt_or_ge (trim a).length (trim b).length with h | h
   ·have := Is.lt_of_len ia ib h
    omega
   ·exact h
  by_cases h2 : (trim b).length = 1
  ·have eb : rd (trim b) 0 = val b := by
    rw [← ib.val]
    match hh : trim b, h2 with
    | [x], _ => simp [val, rd]
   have hw := rd_wf' ib.wf 0
   rw [Int.natCast_zero] at hw
   rw [eb] at hw
   obtain ⟨q, hq, hQ⟩ := word (trim a) (val b) ia.wf (by omega) (by omega)
   rw [ia.val] at hq hQ
   have hr0 := Int.emod_nonneg (val a) hb0
   have hr1 := Int.emod_lt_of_pos (val a) (show 0 < val b by omega)
   have hrw : Wf [val a % val b] := Wf.one hr0 (by omega)
   refine ⟨q, trim [val a % val b], Ev.bind (cut a (by omega)) (Ev.bind (cut b (by omega)) (Ev.bind hc (Ev.congr (fun k => if_neg (fun hn => h1 (sgn_neg.1 hn))) (Ev.congr (fun k => if_pos (by omega)) (Ev.congr (fun k => if_pos (by omega)) ?_))))), hQ, Is.of hrw (val_one _)⟩
   rw [eb]
   exact Ev.bind hq (Ev.bind (cuto [val a % val b] (by simp)) (Ev.now _))
  ·obtain ⟨m, hm⟩ : ∃ m, (trim b).length = m + 2 := ⟨(trim b).length - 2, by omega⟩
   have htop := top_nonzero ib.wf ib.nm hbl
   have htw := top_wf ib.wf
   rw [show ((trim b).length - 1 : Nat) = m + 1 from by omega] at htop htw
   obtain ⟨s, hs, hz, hn1, hn2⟩ := lz32 ⟨htop, htw.2⟩
   obtain ⟨V, hV, iV⟩ := shlN (trim b) s hs ib.wf (by omega)
   obtain ⟨X, hX, iX⟩ := shlN (trim a) s hs ia.wf (by omega)
   obtain ⟨hVn, hVt⟩ := norm_top (trim b) V m s hs ib.wf hm iV hn1 hn2
   obtain ⟨q, r, h4, h5, h6⟩ := qr_main (trim a) (trim b) V X m s hs ⟨ia.wf, ia.nm, rfl⟩ ⟨ib.wf, ib.nm, rfl⟩ hm hba (by omega) iV hVn hVt iX
   rw [ia.val, ib.val] at h5 h6
   exact ⟨q, r, qr_go a b (trim a) (trim b) V X m s (sgn (val a) (val b)) (q, r) (by omega) hba hm (cut a (by omega)) (cut b (by omega)) hc (fun hn => h1 (sgn_neg.1 hn)) hz hV hX h4, h5, h6⟩
theorem gcd_step (k : Nat) (a b : List Int) (h : b ≠ []) : nats_Gcd.l0 (k + 1) a b = (nats_QuoRem.f k a b).bind fun t => nats_Gcd.l0 k b t.2 := by
 have hb : 0 < b.length := List.length_pos_iff.2 h
 simp only [nats_Gcd.l0]
 rw [if_pos (by omega)]
theorem gcd_end (k : Nat) (a : List Int) : nats_Gcd.l0 (k + 1) a [] = (nats_Trim.f k a).bind fun t => some t := by
 simp only [nats_Gcd.l0]
 rw [if_neg (by simp)]
theorem gcd_l0 : ∀ (n m : Nat) (a b : List Int), Is a (m : Int) → Is b (n : Int) → a.length ≤ 35184372088830 → b.length ≤ 35184372088830 → ∃ r, Ev (fun k => nats_Gcd.l0 k a b) r ∧ Is r (Nat.gcd m n : Nat) := by
 intro n
 induction n using Nat.strongRecOn with
 | _ n ih =>
  intro m a b ha hb hl hlb
  by_cases h : b = []
  ·have hn : (n : Int) = 0 := hb.zero_iff.1 h
   have hn2 : n = 0 := by omega
   subst h hn2
   refine ⟨trim a, Ev.step (fun k => gcd_end k a) (Ev.bind (natsTrim a (by omega)) (Ev.now _)), ?_⟩
   rw [Nat.gcd_zero_right, ha.nm]
   exact ha
  ·have hn : (n : Int) ≠ 0 := fun e => h (hb.zero_iff.2 e)
   obtain ⟨q, r, hE, hq, hr⟩ := quorem a b ha.wf hb.wf hl hlb (by rw [hb.val]; exact hn)
   rw [ha.val, hb.val] at hr
   have e : (m : Int) % (n : Int) = ((m % n : Nat) : Int) := rfl
   rw [e] at hr
   have hlt : m % n < n := Nat.mod_lt _ (by omega)
   have hlr : r.length ≤ b.length := hr.len (Int.lt_trans (by omega) hb.lt)
   obtain ⟨r2, hE2, hI⟩ := ih (m % n) hlt n b r hb hr hlb (by omega)
   refine ⟨r2, Ev.step (fun k => gcd_step k a b h) (Ev.bind hE hE2), ?_⟩
   rw [Nat.gcd_comm m n, Nat.gcd_rec n m, Nat.gcd_comm (m % n) n]
   exact hI
theorem natsGcd (a b : List Int) (ha : Wf a) (hb : Wf b) (hl : a.length ≤ 35184372088830) (hlb : b.length ≤ 35184372088830) : ∃ r, Ev (fun k => nats_Gcd.f k a b) r ∧ Is r (Nat.gcd (val a).toNat (val b).toNat : Nat) := by
 have ia := Is.of ha rfl
 have ib := Is.of hb rfl
 have la := trim_len a
 have lb := trim_len b
 have na := val_nonneg ha
 have nb := val_nonneg hb
 obtain ⟨r, hE, hI⟩ := gcd_l0 (val b).toNat (val a).toNat (trim a) (trim b) (by rw [Int.toNat_of_nonneg na]; exact ia) (by rw [Int.toNat_of_nonneg nb]; exact ib) (by omega) (by omega)
 exact ⟨r, Ev.bind (natsTrim a (by omega)) (Ev.bind (natsTrim b (by omega)) hE), hI⟩
def nform (l : List Int) : Bool := if l.length ≤ 16 then (if l.length = 0 then true else rd l ((l.length - 1 : Nat) : Int) != 0) else false
theorem natural_f (l : List Int) : ratio_natural.f l = some (nform l) := by
 unfold ratio_natural.f nform
 by_cases h1 : l.length ≤ 16
 ·rw [if_pos (by omega), if_pos h1]
  by_cases h2 : l.length = 0
  ·rw [if_pos (by omega), if_pos h2]
  ·have e1 : wrap64 ((l.length : Int) - 1) = ((l.length - 1 : Nat) : Int) := by rw [w64 (by omega) (by omega)]; omega
   rw [if_neg (by omega), if_neg h2, e1, if_pos (by omega), if_pos (by omega)]
 ·rw [if_neg (by omega), if_neg h1]
theorem nform_iff {l : List Int} (hw : Wf l) : nform l = true ↔ l.length ≤ 16 ∧ trim l = l := by
 unfold nform
 by_cases h1 : l.length ≤ 16
 ·rw [if_pos h1]
  by_cases h2 : l.length = 0
  ·rw [if_pos h2]
   have e : l = [] := List.eq_nil_of_length_eq_zero h2
   subst e
   exact ⟨(fun _ => ⟨h1, rfl⟩), (fun _ => rfl)⟩
  ·rw [if_neg h2]
   obtain ⟨m, x, rfl⟩ := snoc_of_ne (show l ≠ [] by intro e; rw [e] at h2; exact h2 rfl)
   have e : (m ++ [x]).length - 1 = m.length := by simp
   rw [e, rd_snoc]
   constructor
   ·intro h
    exact ⟨h1, trim_snoc m x (by simpa using h)⟩
   ·intro h
    have := last_pos h.2 hw
    simp
    omega
 ·rw [if_neg h1]
  exact ⟨(fun h => by cases h), fun h => absurd h.1 h1⟩
def L (v : Nat) : List Int := trim (limbsN v)
theorem L_is (v : Nat) : Is (L v) (v : Int) := Is.of (limbsN_wf v) (limbsN_val v)
theorem eqL {r : List Int} {v : Nat} (h : Is r (v : Int)) : r = L v := h.eq (L_is v)
theorem one_L : L 1 = [1] := (eqL (show Is [1] ((1 : Nat) : Int) from ⟨Wf.one (by omega) (by omega), by simp [trim], by simp [Pl.val]⟩)).symm
theorem zero_L : L 0 = [] := (eqL (show Is [] ((0 : Nat) : Int) from Is.nil)).symm
theorem one_is : Is [1] ((1 : Nat) : Int) := ⟨Wf.one (by omega) (by omega), by simp [trim], by simp [Pl.val]⟩
theorem one_f {r : List Int} {v : Nat} (h : Is r (v : Int)) : ratio_one.f r = some (decide (v = 1)) := by
 unfold ratio_one.f
 by_cases c : v = 1
 ·subst c
  have e : r = [1] := h.eq one_is
  subst e
  rfl
 ·rw [decide_eq_false c]
  by_cases c2 : r.length = 1
  ·obtain ⟨x, rfl⟩ := List.length_eq_one_iff.1 c2
   have hv := h.val
   simp only [Pl.val] at hv
   rw [if_pos (by simp), if_pos (by simp)]
   have e : rd [x] 0 = x := rfl
   rw [e]
   congr 1
   have : x ≠ 1 := by omega
   simp [this]
  ·rw [if_neg (by omega)]
structure Rf (neg : Bool) (n d : List Int) (N D : Nat) : Prop where
 num : Is n (N : Int)
 den : Is d (D : Int)
 nlen : n.length ≤ 16
 dlen : d.length ≤ 16
 pos : D ≠ 0
 sign : neg = true → N ≠ 0
 low : Nat.gcd N D = 1
theorem form_j0_t (k : Nat) (a : Bool) (n d : List Int) : ratio_Form.j0 (k + 1) true a n d = some false := by
 simp only [ratio_Form.j0]
 rfl
theorem form_j0_f (k : Nat) (a : Bool) (n d : List Int) : ratio_Form.j0 (k + 1) false a n d = (nats_Gcd.f k n d).bind fun t => (ratio_one.f t).bind fun b => some b := by
 simp only [ratio_Form.j0]
 rfl
theorem form_bad (a : Bool) (n d : List Int) : Ev (fun k => ratio_Form.j0 k true a n d) false := Ev.step (fun k => form_j0_t k a n d) (Ev.now _)
theorem form_gcd (a : Bool) (n d : List Int) (hn : Wf n) (hd : Wf d) (ln : n.length ≤ 16) (ld : d.length ≤ 16) : Ev (fun k => ratio_Form.j0 k false a n d) (decide (Nat.gcd (val n).toNat (val d).toNat = 1)) := by
 obtain ⟨g, hg, ig⟩ := natsGcd n d hn hd (by omega) (by omega)
 refine Ev.step (fun k => form_j0_f k a n d) (Ev.bind hg ?_)
 rw [one_f ig]
 exact Ev.now _
theorem form (a : Bool) (n d : List Int) (hn : Wf n) (hd : Wf d) : ∃ b, Ev (fun k => ratio_Form.f k a n d) b ∧ (b = true ↔ Rf a n d (val n).toNat (val d).toNat) := by
 have nn := val_nonneg hn
 have nd := val_nonneg hd
 have en : ((val n).toNat : Int) = val n := Int.toNat_of_nonneg nn
 have ed : ((val d).toNat : Int) = val d := Int.toNat_of_nonneg nd
 have nf := nform_iff hn
 have df := nform_iff hd
 unfold ratio_Form.f
 rw [natural_f, natural_f]
 simp only [Option.bind_some]
 by_cases c1 : nform n = true
 ·by_cases c2 : nform d = true
  ·have h1 := nf.1 c1
   have h2 := df.1 c2
   have i1 : Is n ((val n).toNat : Int) := ⟨hn, h1.2, by rw [en]⟩
   have i2 : Is d ((val d).toNat : Int) := ⟨hd, h2.2, by rw [ed]⟩
   by_cases c3 : d.length = 0
   ·refine ⟨false, Ev.congr (fun k => if_pos c1) (Ev.congr (fun k => if_pos c2) (Ev.congr (fun k => if_pos (by omega)) (form_bad a n d))), ⟨(fun h => by cases h), fun h => ?_⟩⟩
    exfalso
    have e : d = [] := List.eq_nil_of_length_eq_zero c3
    have := h.den.zero_iff.1 e
    have := h.pos
    omega
   ·have hd0 : (val d).toNat ≠ 0 := fun e => by
     have := i2.zero_iff.2 (by rw [e]; rfl)
     rw [this] at c3
     exact c3 rfl
    by_cases c4 : a = true ∧ n.length = 0
    ·refine ⟨false, Ev.congr (fun k => if_pos c1) (Ev.congr (fun k => if_pos c2) (Ev.congr (fun k => if_neg (by omega)) (Ev.congr (fun k => if_pos c4.1) ?_))), ⟨(fun h => by cases h), fun h => ?_⟩⟩
     ·have e : ((n.length : Int) == 0) = true := by simp; exact List.eq_nil_of_length_eq_zero c4.2
      rw [e]
      exact form_bad a n d
     ·exfalso
      have e : n = [] := List.eq_nil_of_length_eq_zero c4.2
      have h5 := h.num.zero_iff.1 e
      have h6 := h.sign c4.1
      omega
    ·refine ⟨decide (Nat.gcd (val n).toNat (val d).toNat = 1), ?_, ?_⟩
     ·refine Ev.congr (fun k => if_pos c1) (Ev.congr (fun k => if_pos c2) (Ev.congr (fun k => if_neg (by omega)) ?_))
      by_cases c5 : a = true
      ·have e : ((n.length : Int) == 0) = false := by
        have : ¬ n.length = 0 := fun h => c4 ⟨c5, h⟩
        simp
        intro h
        rw [h] at this
        exact this rfl
       refine Ev.congr (fun k => if_pos c5) ?_
       rw [e]
       exact form_gcd a n d hn hd h1.1 h2.1
      ·exact Ev.congr (fun k => if_neg c5) (form_gcd a n d hn hd h1.1 h2.1)
     ·rw [decide_eq_true_iff]
      refine ⟨fun h => ⟨i1, i2, h1.1, h2.1, hd0, fun ha hn0 => c4 ⟨ha, ?_⟩, h⟩, fun h => h.low⟩
      have := i1.zero_iff.2 (by rw [hn0]; rfl)
      rw [this]; rfl
  ·refine ⟨false, Ev.congr (fun k => if_pos c1) (Ev.congr (fun k => if_neg c2) (form_bad a n d)), ⟨(fun h => by cases h), fun h => absurd (df.2 ⟨h.dlen, h.den.nm⟩) c2⟩⟩
 ·exact ⟨false, Ev.congr (fun k => if_neg c1) (form_bad a n d), ⟨(fun h => by cases h), fun h => absurd (nf.2 ⟨h.nlen, h.num.nm⟩) c1⟩⟩
def mkOf (neg : Bool) (n d : Nat) : Bool × List Int × List Int × Int :=
 if d = 0 then (false, [], [], 10) else if n = 0 then (false, [], [1], 0)
 else if 16 < (L (n / Nat.gcd n d)).length ∨ 16 < (L (d / Nat.gcd n d)).length then (false, [], [], 4) else (neg, L (n / Nat.gcd n d), L (d / Nat.gcd n d), 0)
theorem make_j0 (neg : Bool) (n d : List Int) : Ev (fun k => ratio_Make.j0 k neg n d) (if 16 < n.length ∨ 16 < d.length then (false, [], [], 4) else (neg, n, d, 0)) := by
 by_cases c1 : 16 < n.length
 ·rw [if_pos (Or.inl c1)]
  refine Ev.step (f := fun _ => some (false, [], [], 4)) (fun k => ?_) (Ev.now _)
  simp only [ratio_Make.j0]
  rw [if_pos (by omega)]
 ·by_cases c2 : 16 < d.length
  ·rw [if_pos (Or.inr c2)]
   refine Ev.step (f := fun _ => some (false, [], [], 4)) (fun k => ?_) (Ev.now _)
   simp only [ratio_Make.j0]
   rw [if_neg (by omega), if_pos (by omega)]
  ·rw [if_neg (show ¬ (16 < n.length ∨ 16 < d.length) by omega)]
   refine Ev.step (f := fun _ => some (neg, n, d, 0)) (fun k => ?_) (Ev.now _)
   simp only [ratio_Make.j0]
   rw [if_neg (by omega), if_neg (by omega)]
theorem make (neg : Bool) (n d : List Int) (hn : Wf n) (hd : Wf d) (ln : n.length ≤ 35184372088800) (ld : d.length ≤ 35184372088800) : Ev (fun k => ratio_Make.f k neg n d) (mkOf neg (val n).toNat (val d).toNat) := by
 have nn := val_nonneg hn
 have nd := val_nonneg hd
 have en : ((val n).toNat : Int) = val n := Int.toNat_of_nonneg nn
 have ed : ((val d).toNat : Int) = val d := Int.toNat_of_nonneg nd
 have i1 : Is (trim n) ((val n).toNat : Int) := by rw [en]; exact Is.of hn rfl
 have i2 : Is (trim d) ((val d).toNat : Int) := by rw [ed]; exact Is.of hd rfl
 have l1 := trim_len n
 have l2 := trim_len d
 generalize (val n).toNat = N at *
 generalize (val d).toNat = D at *
 unfold ratio_Make.f mkOf
 refine Ev.bind (natsTrim n (by omega)) (Ev.bind (natsTrim d (by omega)) ?_)
 by_cases c1 : D = 0
 ·rw [if_pos c1]
  have e : trim d = [] := i2.zero_iff.2 (by omega)
  exact Ev.congr (fun k => if_pos (by rw [e]; rfl)) (Ev.now _)
 ·have h1 : (trim d).length ≠ 0 := fun e => c1 (by have := i2.zero_iff.1 (List.eq_nil_of_length_eq_zero e); omega)
  rw [if_neg c1]
  refine Ev.congr (fun k => if_neg (by omega)) ?_
  by_cases c2 : N = 0
  ·rw [if_pos c2]
   have e : trim n = [] := i1.zero_iff.2 (by omega)
   exact Ev.congr (fun k => if_pos (by rw [e]; rfl)) (Ev.now _)
  ·have h2 : (trim n).length ≠ 0 := fun e => c2 (by have := i1.zero_iff.1 (List.eq_nil_of_length_eq_zero e); omega)
   rw [if_neg c2]
   refine Ev.congr (fun k => if_neg (by omega)) ?_
   obtain ⟨g, hg, ig⟩ := natsGcd (trim n) (trim d) i1.wf i2.wf (by omega) (by omega)
   rw [i1.val, i2.val, Int.toNat_natCast, Int.toNat_natCast] at ig
   have g0 : 0 < Nat.gcd N D := Nat.gcd_pos_of_pos_left D (by omega)
   have gN : Nat.gcd N D ≤ N := Nat.gcd_le_left D (by omega)
   have gl : g.length ≤ 35184372088800 := by
    have h3 := i1.lt
    have := ig.len (n := (trim n).length) (by omega)
    omega
   refine Ev.bind hg ?_
   rw [one_f ig]
   simp only [Option.bind_some]
   by_cases c3 : Nat.gcd N D = 1
   ·rw [decide_eq_true c3, c3, Nat.div_one, Nat.div_one, ← eqL i1, ← eqL i2]
    exact Ev.congr (fun k => if_pos rfl) (make_j0 neg (trim n) (trim d))
   ·rw [decide_eq_false c3]
    refine Ev.congr (fun k => if_neg (by decide)) ?_
    obtain ⟨q1, r1, hE1, hq1, hr1⟩ := quorem (trim n) g i1.wf ig.wf (by omega) (by omega) (by rw [ig.val]; omega)
    obtain ⟨q2, r2, hE2, hq2, hr2⟩ := quorem (trim d) g i2.wf ig.wf (by omega) (by omega) (by rw [ig.val]; omega)
    rw [i1.val, ig.val] at hq1
    rw [i2.val, ig.val] at hq2
    have e1 : q1 = L (N / Nat.gcd N D) := eqL (show Is q1 ((N / Nat.gcd N D : Nat) : Int) from hq1)
    have e2 : q2 = L (D / Nat.gcd N D) := eqL (show Is q2 ((D / Nat.gcd N D : Nat) : Int) from hq2)
    rw [← e1, ← e2]
    exact Ev.bind hE1 (Ev.bind hE2 (make_j0 neg q1 q2))
theorem mk_form {neg : Bool} {n d : Nat} (h : (mkOf neg n d).2.2.2 = 0) : ∃ N D, Rf (mkOf neg n d).1 (mkOf neg n d).2.1 (mkOf neg n d).2.2.1 N D := by
 unfold mkOf at h ⊢
 by_cases c1 : d = 0
 ·rw [if_pos c1] at h
  exact absurd h (by decide)
 ·rw [if_neg c1] at h ⊢
  by_cases c2 : n = 0
  ·rw [if_pos c2]
   exact ⟨0, 1, Is.nil, one_is, by simp, by simp, by decide, fun h => (by cases h), by decide⟩
  ·rw [if_neg c2] at h ⊢
   have g0 : 0 < Nat.gcd n d := Nat.gcd_pos_of_pos_left d (by omega)
   by_cases c3 : 16 < (L (n / Nat.gcd n d)).length ∨ 16 < (L (d / Nat.gcd n d)).length
   ·rw [if_pos c3] at h
    exact absurd h (by decide)
   ·rw [if_neg c3]
    refine ⟨n / Nat.gcd n d, d / Nat.gcd n d, L_is _, L_is _, (show (L (n / Nat.gcd n d)).length ≤ 16 by omega), (show (L (d / Nat.gcd n d)).length ≤ 16 by omega), ?_, fun _ => ?_, ?_⟩
    ·have := Nat.div_pos (Nat.gcd_le_right n (show 0 < d by omega)) g0
     omega
    ·have := Nat.div_pos (Nat.gcd_le_left d (show 0 < n by omega)) g0
     omega
    ·rw [Nat.gcd_div (Nat.gcd_dvd_left n d) (Nat.gcd_dvd_right n d), Nat.div_self g0]
theorem mk_err {neg : Bool} {n d : Nat} (h : (mkOf neg n d).2.2.2 ≠ 0) : (mkOf neg n d).1 = false ∧ (mkOf neg n d).2.1 = [] ∧ (mkOf neg n d).2.2.1 = [] := by
 unfold mkOf at h ⊢
 by_cases c1 : d = 0
 ·rw [if_pos c1]; exact ⟨rfl, rfl, rfl⟩
 ·rw [if_neg c1] at h ⊢
  by_cases c2 : n = 0
  ·rw [if_pos c2] at h; exact absurd rfl h
  ·rw [if_neg c2] at h ⊢
   by_cases c3 : 16 < (L (n / Nat.gcd n d)).length ∨ 16 < (L (d / Nat.gcd n d)).length
   ·rw [if_pos c3]; exact ⟨rfl, rfl, rfl⟩
   ·rw [if_neg c3] at h; exact absurd rfl h
theorem rnform (l : List Int) : r1_Form.f l = some (nform l) := natural_f l
theorem rsame_no_l0 (a b : List Int) (hab : a.length = b.length) (hl : a.length ≤ 70368744177664) : ∀ (d i : Nat), d + i = a.length → (∃ j, i ≤ j ∧ j < a.length ∧ rd a (j : Int) ≠ rd b (j : Int)) → Ev (fun k => r1_Same.l0 k a b (i : Int)) false
 | 0, i, hi, h => by
  obtain ⟨j, h1, h2, _⟩ := h
  omega
 | d + 1, i, hi, h => by
  by_cases c : rd a (i : Int) = rd b (i : Int)
  ·refine Ev.step (fun k => rsame_step k a b i (by omega) (by omega) hl c) (rsame_no_l0 a b hab hl d (i + 1) (by omega) ?_)
   obtain ⟨j, h1, h2, h3⟩ := h
   refine ⟨j, ?_, h2, h3⟩
   rcases Nat.eq_or_lt_of_le h1 with e | e
   ·subst e
    exact absurd c h3
   ·exact e
  ·refine Ev.step (f := fun _ => some false) (fun k => ?_) (Ev.now _)
   simp only [r1_Same.l0]
   rw [if_pos (by omega), if_pos (by omega), if_pos (by omega), if_neg c]
theorem rsame (a b : List Int) (hl : a.length ≤ 70368744177664) : Ev (fun k => r1_Same.f k a b) (decide (a = b)) := by
 by_cases e : a = b
 ·subst e
  rw [decide_eq_true rfl]
  exact rsame_refl a hl
 ·rw [decide_eq_false e]
  unfold r1_Same.f
  by_cases c : a.length = b.length
  ·refine Ev.congr (fun k => if_pos (by omega)) (rsame_no_l0 a b c hl a.length 0 (by omega) ?_)
   refine Classical.byContradiction fun hn => e (ext_rd c fun t ht => Classical.byContradiction fun h => hn ⟨t, by omega, ht, h⟩)
  ·exact Ev.congr (fun k => if_neg (by omega)) (Ev.now _)
theorem rsame2 (a : Bool) (n d : List Int) (b : Bool) (n2 d2 : List Int) (hn : n.length ≤ 70368744177664) (hd : d.length ≤ 70368744177664) : Ev (fun k => r2_Same.f k a n d b n2 d2) (decide (a = b ∧ n = n2 ∧ d = d2)) := by
 unfold r2_Same.f
 by_cases c1 : a = b
 ·refine Ev.congr (fun k => if_pos (by simp [c1])) (Ev.bind (rsame n n2 hn) ?_)
  by_cases c2 : n = n2
  ·refine Ev.congr (fun k => if_pos (by simp [c2])) (Ev.bind (rsame d d2 hd) ?_)
   rw [show decide (d = d2) = decide (a = b ∧ n = n2 ∧ d = d2) by simp [c1, c2]]
   exact Ev.now _
  ·rw [decide_eq_false (show ¬ (a = b ∧ n = n2 ∧ d = d2) from fun h => c2 h.2.1)]
   exact Ev.congr (fun k => if_neg (by simp [c2])) (Ev.now _)
 ·rw [decide_eq_false (show ¬ (a = b ∧ n = n2 ∧ d = d2) from fun h => c1 h.1)]
  exact Ev.congr (fun k => if_neg (by simp [c1])) (Ev.now _)
theorem rform_bad (a : Bool) (n d : List Int) : Ev (fun k => r2_Form.j0 k true a n d) false := by
 refine Ev.step (f := fun k => some false) (fun k => ?_) (Ev.now _)
 simp only [r2_Form.j0]
 rfl
theorem one_iff {r : List Int} {v : Nat} (h : Is r (v : Int)) : r = [1] ↔ v = 1 := by
 constructor
 ·intro e
  have := h.val
  rw [e] at this
  simp [Pl.val] at this
  omega
 ·intro e
  subst e
  exact h.eq one_is
theorem rform_gcd (a : Bool) (n d : List Int) (hn : Wf n) (hd : Wf d) (ln : n.length ≤ 16) (ld : d.length ≤ 16) : Ev (fun k => r2_Form.j0 k false a n d) (decide (Nat.gcd (val n).toNat (val d).toNat = 1)) := by
 obtain ⟨g, hg, ig⟩ := common n d hn hd (by omega) (by omega)
 have gl : g.length ≤ 70368744177664 := by
  have h1 := val_lt hn
  have h2 := val_lt hd
  have h3 := val_nonneg hn
  have h4 := val_nonneg hd
  by_cases e : (val n).toNat = 0
  ·have := ig.len (n := d.length) (by rw [e, Nat.gcd_zero_left]; omega)
   omega
  ·have h5 := Nat.gcd_le_left (val d).toNat (show 0 < (val n).toNat by omega)
   have := ig.len (n := n.length) (by omega)
   omega
 refine Ev.step (f := fun k => (r1_Common.f k n d).bind fun t => (r1_Same.f k t [1]).bind fun b => some b) (fun k => ?_) (Ev.bind hg (Ev.bind (rsame g [1] gl) ?_))
 ·simp only [r2_Form.j0]
  rfl
 ·rw [show decide (g = [1]) = decide (Nat.gcd (val n).toNat (val d).toNat = 1) from decide_eq_decide.2 (one_iff ig)]
  exact Ev.now _
theorem rform (a : Bool) (n d : List Int) (hn : Wf n) (hd : Wf d) : ∃ b, Ev (fun k => r2_Form.f k a n d) b ∧ (b = true ↔ Rf a n d (val n).toNat (val d).toNat) := by
 have nn := val_nonneg hn
 have nd := val_nonneg hd
 have en : ((val n).toNat : Int) = val n := Int.toNat_of_nonneg nn
 have ed : ((val d).toNat : Int) = val d := Int.toNat_of_nonneg nd
 have nf := nform_iff hn
 have df := nform_iff hd
 unfold r2_Form.f
 rw [rnform, rnform]
 simp only [Option.bind_some]
 by_cases c1 : nform n = true
 ·by_cases c2 : nform d = true
  ·have h1 := nf.1 c1
   have h2 := df.1 c2
   have i1 : Is n ((val n).toNat : Int) := ⟨hn, h1.2, by rw [en]⟩
   have i2 : Is d ((val d).toNat : Int) := ⟨hd, h2.2, by rw [ed]⟩
   by_cases c3 : d.length = 0
   ·refine ⟨false, Ev.congr (fun k => if_pos c1) (Ev.congr (fun k => if_pos c2) (Ev.congr (fun k => if_pos (by omega)) (rform_bad a n d))), ⟨(fun h => by cases h), fun h => ?_⟩⟩
    exfalso
    have e : d = [] := List.eq_nil_of_length_eq_zero c3
    have := h.den.zero_iff.1 e
    have := h.pos
    omega
   ·have hd0 : (val d).toNat ≠ 0 := fun e => by
     have := i2.zero_iff.2 (by rw [e]; rfl)
     rw [this] at c3
     exact c3 rfl
    by_cases c4 : a = true ∧ n.length = 0
    ·refine ⟨false, Ev.congr (fun k => if_pos c1) (Ev.congr (fun k => if_pos c2) (Ev.congr (fun k => if_neg (by omega)) (Ev.congr (fun k => if_pos c4.1) ?_))), ⟨(fun h => by cases h), fun h => ?_⟩⟩
     ·have e : ((n.length : Int) == 0) = true := by simp; exact List.eq_nil_of_length_eq_zero c4.2
      rw [e]
      exact rform_bad a n d
     ·exfalso
      have e : n = [] := List.eq_nil_of_length_eq_zero c4.2
      have h5 := h.num.zero_iff.1 e
      have h6 := h.sign c4.1
      omega
    ·refine ⟨decide (Nat.gcd (val n).toNat (val d).toNat = 1), ?_, ?_⟩
     ·refine Ev.congr (fun k => if_pos c1) (Ev.congr (fun k => if_pos c2) (Ev.congr (fun k => if_neg (by omega)) ?_))
      by_cases c5 : a = true
      ·have e : ((n.length : Int) == 0) = false := by
        have : ¬ n.length = 0 := fun h => c4 ⟨c5, h⟩
        simp
        intro h
        rw [h] at this
        exact this rfl
       refine Ev.congr (fun k => if_pos c5) ?_
       rw [e]
       exact rform_gcd a n d hn hd h1.1 h2.1
      ·exact Ev.congr (fun k => if_neg c5) (rform_gcd a n d hn hd h1.1 h2.1)
     ·rw [decide_eq_true_iff]
      refine ⟨fun h => ⟨i1, i2, h1.1, h2.1, hd0, fun ha hn0 => c4 ⟨ha, ?_⟩, h⟩, fun h => h.low⟩
      have := i1.zero_iff.2 (by rw [hn0]; rfl)
      rw [this]; rfl
  ·refine ⟨false, Ev.congr (fun k => if_pos c1) (Ev.congr (fun k => if_neg c2) (rform_bad a n d)), ⟨(fun h => by cases h), fun h => absurd (df.2 ⟨h.dlen, h.den.nm⟩) c2⟩⟩
 ·exact ⟨false, Ev.congr (fun k => if_neg c1) (rform_bad a n d), ⟨(fun h => by cases h), fun h => absurd (nf.2 ⟨h.nlen, h.num.nm⟩) c1⟩⟩
theorem form_both (a : Bool) (n d : List Int) (hn : Wf n) (hd : Wf d) : ∃ b, Ev (fun k => ratio_Form.f k a n d) b ∧ Ev (fun k => r2_Form.f k a n d) b ∧ (b = true ↔ Rf a n d (val n).toNat (val d).toNat) := by
 obtain ⟨b, h1, h2⟩ := form a n d hn hd
 obtain ⟨b', h3, h4⟩ := rform a n d hn hd
 have e : b = b' := Bool.eq_iff_iff.2 (h2.trans h4.symm)
 subst e
 exact ⟨b, h1, h3, h2⟩
theorem rmake (neg : Bool) (n d : List Int) (hn : Wf n) (hd : Wf d) (ln : n.length ≤ 35184372087808) (ld : d.length ≤ 35184372087808) : Ev (fun k => r2_Make.f k neg n d) (mkOf neg (val n).toNat (val d).toNat) := by
 have nn := val_nonneg hn
 have nd := val_nonneg hd
 have en : ((val n).toNat : Int) = val n := Int.toNat_of_nonneg nn
 have ed : ((val d).toNat : Int) = val d := Int.toNat_of_nonneg nd
 have i1 : Is (trim n) ((val n).toNat : Int) := by rw [en]; exact Is.of hn rfl
 have i2 : Is (trim d) ((val d).toNat : Int) := by rw [ed]; exact Is.of hd rfl
 have l1 := trim_len n
 have l2 := trim_len d
 generalize (val n).toNat = N at *
 generalize (val d).toNat = D at *
 unfold r2_Make.f mkOf
 refine Ev.bind (rtrim' n (by omega)) (Ev.bind (rtrim' d (by omega)) ?_)
 by_cases c1 : D = 0
 ·rw [if_pos c1]
  have e : trim d = [] := i2.zero_iff.2 (by omega)
  exact Ev.congr (fun k => if_pos (by rw [e]; rfl)) (Ev.now _)
 ·have h1 : (trim d).length ≠ 0 := fun e => c1 (by have := i2.zero_iff.1 (List.eq_nil_of_length_eq_zero e); omega)
  rw [if_neg c1]
  refine Ev.congr (fun k => if_neg (by omega)) ?_
  by_cases c2 : N = 0
  ·rw [if_pos c2]
   have e : trim n = [] := i1.zero_iff.2 (by omega)
   exact Ev.congr (fun k => if_pos (by rw [e]; rfl)) (Ev.now _)
  ·have h2 : (trim n).length ≠ 0 := fun e => c2 (by have := i1.zero_iff.1 (List.eq_nil_of_length_eq_zero e); omega)
   rw [if_neg c2]
   refine Ev.congr (fun k => if_neg (by omega)) ?_
   obtain ⟨g, hg, ig⟩ := common (trim n) (trim d) i1.wf i2.wf (by omega) (by omega)
   rw [i1.val, i2.val, Int.toNat_natCast, Int.toNat_natCast] at ig
   have g0 : 0 < Nat.gcd N D := Nat.gcd_pos_of_pos_left D (by omega)
   have gN : Nat.gcd N D ≤ N := Nat.gcd_le_left D (by omega)
   have gl : g.length ≤ 35184372087808 := by
    have h3 := i1.lt
    have := ig.len (n := (trim n).length) (by omega)
    omega
   refine Ev.bind hg ?_
   obtain ⟨q1, r1, hE1, hq1, hr1⟩ := rdivide (trim n) g i1.wf ig.wf (by omega) (by omega) (by rw [ig.val]; omega)
   obtain ⟨q2, r2, hE2, hq2, hr2⟩ := rdivide (trim d) g i2.wf ig.wf (by omega) (by omega) (by rw [ig.val]; omega)
   rw [i1.val, ig.val] at hq1
   rw [i2.val, ig.val] at hq2
   have e1 : q1 = L (N / Nat.gcd N D) := eqL (show Is q1 ((N / Nat.gcd N D : Nat) : Int) from hq1)
   have e2 : q2 = L (D / Nat.gcd N D) := eqL (show Is q2 ((D / Nat.gcd N D : Nat) : Int) from hq2)
   rw [← e1, ← e2]
   refine Ev.bind hE1 (Ev.bind hE2 ?_)
   by_cases c4 : 16 < q1.length
   ·rw [if_pos (Or.inl c4)]
    exact Ev.congr (fun k => if_pos (show (q1.length : Int) > 16 by omega)) (Ev.now _)
   ·refine Ev.congr (fun k => if_neg (show ¬ (q1.length : Int) > 16 by omega)) ?_
    by_cases c5 : 16 < q2.length
    ·rw [if_pos (Or.inr c5)]
     exact Ev.congr (fun k => if_pos (show (q2.length : Int) > 16 by omega)) (Ev.now _)
    ·rw [if_neg (show ¬ (16 < q1.length ∨ 16 < q2.length) by omega)]
     exact Ev.congr (fun k => if_neg (show ¬ (q2.length : Int) > 16 by omega)) (Ev.now _)
theorem eq_step (k : Nat) (a b : List Int) (n : Int) (i : Nat) (hn : n = (a.length : Int)) (h1 : i < a.length) (h2 : i < b.length) (hl : a.length ≤ 70368744177664) (h : rd a (i : Int) = rd b (i : Int)) : slices_Equal_uint32_uint32.l0 (k + 1) a b n (i : Int) = slices_Equal_uint32_uint32.l0 k a b n ((i + 1 : Nat) : Int) := by
 subst hn
 simp only [slices_Equal_uint32_uint32.l0]
 rw [if_pos (by omega), if_pos (by omega), if_pos (by omega), if_pos (by omega), if_pos h, winc (by omega)]
theorem eq_no (a b : List Int) (hab : a.length = b.length) (hl : a.length ≤ 70368744177664) : ∀ (d i : Nat), d + i = a.length → (∃ j, i ≤ j ∧ j < a.length ∧ rd a (j : Int) ≠ rd b (j : Int)) → Ev (fun k => slices_Equal_uint32_uint32.l0 k a b (a.length : Int) (i : Int)) false
 | 0, i, hi, h => by
  obtain ⟨j, h1, h2, _⟩ := h
  omega
 | d + 1, i, hi, h => by
  by_cases c : rd a (i : Int) = rd b (i : Int)
  ·refine Ev.step (fun k => eq_step k a b _ i rfl (by omega) (by omega) hl c) (eq_no a b hab hl d (i + 1) (by omega) ?_)
   obtain ⟨j, h1, h2, h3⟩ := h
   refine ⟨j, ?_, h2, h3⟩
   rcases Nat.eq_or_lt_of_le h1 with e | e
   ·subst e
    exact absurd c h3
   ·exact e
  ·refine Ev.step (f := fun _ => some false) (fun k => ?_) (Ev.now _)
   simp only [slices_Equal_uint32_uint32.l0]
   rw [if_pos (by omega), if_pos (by omega), if_pos (by omega), if_pos (by omega), if_neg c]
theorem eq_yes (l : List Int) (hl : l.length ≤ 70368744177664) : ∀ (d i : Nat), d + i = l.length → Ev (fun k => slices_Equal_uint32_uint32.l0 k l l (l.length : Int) (i : Int)) true
 | 0, i, h => by
  refine Ev.step (f := fun _ => some true) (fun k => ?_) (Ev.now _)
  simp only [slices_Equal_uint32_uint32.l0]
  rw [if_neg (by omega)]
 | d + 1, i, h => Ev.step (fun k => eq_step k l l _ i rfl (by omega) (by omega) hl rfl) (eq_yes l hl d (i + 1) (by omega))
theorem equal_dec (a b : List Int) (hl : a.length ≤ 70368744177664) : Ev (fun k => slices_Equal_uint32_uint32.f k a b) (decide (a = b)) := by
 unfold slices_Equal_uint32_uint32.f
 by_cases e : a = b
 ·subst e
  rw [decide_eq_true rfl]
  exact Ev.congr (fun k => if_pos rfl) (eq_yes a hl a.length 0 (by omega))
 ·rw [decide_eq_false e]
  by_cases c : a.length = b.length
  ·refine Ev.congr (fun k => if_pos (by omega)) (eq_no a b c hl a.length 0 (by omega) ?_)
   refine Classical.byContradiction fun hn => e (ext_rd c fun t ht => Classical.byContradiction fun h => hn ⟨t, by omega, ht, h⟩)
  ·exact Ev.congr (fun k => if_neg (by omega)) (Ev.now _)
theorem same_dec (a : Bool) (n d : List Int) (b : Bool) (n2 d2 : List Int) (hn : n.length ≤ 70368744177664) (hd : d.length ≤ 70368744177664) : Ev (fun k => ratio_Same.f k a n d b n2 d2) (decide (a = b ∧ n = n2 ∧ d = d2)) := by
 unfold ratio_Same.f
 by_cases c1 : a = b
 ·refine Ev.congr (fun k => if_pos (by simp [c1])) (Ev.bind (equal_dec n n2 hn) ?_)
  by_cases c2 : n = n2
  ·refine Ev.congr (fun k => if_pos (by simp [c2])) (Ev.bind (equal_dec d d2 hd) ?_)
   rw [show decide (d = d2) = decide (a = b ∧ n = n2 ∧ d = d2) by simp [c1, c2]]
   exact Ev.now _
  ·rw [decide_eq_false (show ¬ (a = b ∧ n = n2 ∧ d = d2) from fun h => c2 h.2.1)]
   exact Ev.congr (fun k => if_neg (by simp [c2])) (Ev.now _)
 ·rw [decide_eq_false (show ¬ (a = b ∧ n = n2 ∧ d = d2) from fun h => c1 h.1)]
  exact Ev.congr (fun k => if_neg (by simp [c1])) (Ev.now _)
theorem two_val (u : Int) (h0 : 0 ≤ u) (h1 : u < 18446744073709551616) : Wf [u % 4294967296, u / 4294967296] ∧ Pl.val [u % 4294967296, u / 4294967296] = u := by
 refine ⟨Wf.cons (by omega) (by omega) (Wf.one (by omega) (by omega)), ?_⟩
 simp only [Pl.val]
 omega
theorem wf_i64 {x : Int} (h : (Lit.int .i64 x).wf = true) : -9223372036854775808 ≤ x ∧ x < 9223372036854775808 := by
 have e : (Lit.int .i64 x).wf = true ↔ -9223372036854775808 ≤ x ∧ x < 9223372036854775808 := by
  simp [Lit.wf, IntKind.min, IntKind.max, IntKind.signed, IntKind.bits]
  omega
 exact e.1 h
theorem abs_u (x : Int) (h : -9223372036854775808 ≤ x ∧ x < 0) : IntKind.u64.wrap (-(IntKind.u64.wrap x)) = -x := by rw [u64_mod, u64_mod]; omega
theorem of_prog (x : Int) (hx : -9223372036854775808 ≤ x ∧ x < 9223372036854775808) : Ev (fun k => ratio_Of.f k x) (decide (x < 0), L x.natAbs, [1]) := by
 unfold ratio_Of.f
 by_cases c : x < 0
 ·rw [abs_u x ⟨hx.1, c⟩, show (-x) / 4294967296 % 4294967296 = (-x) / 4294967296 by omega, decide_eq_true c]
  obtain ⟨w, v⟩ := two_val (-x) (by omega) (by omega)
  have h := natsTrim [(-x) % 4294967296, (-x) / 4294967296] (by simp)
  rw [eqL (show Is (trim [(-x) % 4294967296, (-x) / 4294967296]) (x.natAbs : Int) from Is.of w (by rw [v]; omega))] at h
  exact Ev.congr (fun k => if_pos c) (Ev.bind h (Ev.now _))
 ·rw [u64 (x := x) (by omega) (by omega), show x / 4294967296 % 4294967296 = x / 4294967296 by omega, decide_eq_false c]
  obtain ⟨w, v⟩ := two_val x (by omega) (by omega)
  have h := natsTrim [x % 4294967296, x / 4294967296] (by simp)
  rw [eqL (show Is (trim [x % 4294967296, x / 4294967296]) (x.natAbs : Int) from Is.of w (by rw [v]; omega))] at h
  exact Ev.congr (fun k => if_neg c) (Ev.bind h (Ev.now _))
theorem mk_one (x : Int) (hx : -9223372036854775808 ≤ x ∧ x < 9223372036854775808) : mkOf (decide (x < 0)) x.natAbs 1 = (decide (x < 0), L x.natAbs, [1], 0) := by
 have hl : (L x.natAbs).length ≤ 2 := (L_is x.natAbs).len (by omega)
 unfold mkOf
 rw [if_neg (by decide), Nat.gcd_one_right, Nat.div_one, Nat.div_one, one_L]
 by_cases c : x.natAbs = 0
 ·rw [if_pos c, c, zero_L, decide_eq_false (show ¬ x < 0 by omega)]
 ·rw [if_neg c, if_neg (show ¬ (16 < (L x.natAbs).length ∨ 16 < ([1] : List Int).length) by simp; omega)]
theorem of_ref (x : Int) (hx : -9223372036854775808 ≤ x ∧ x < 9223372036854775808) : Ev (fun k => r2_Of.f k x) (decide (x < 0), L x.natAbs, [1]) := by
 have hm := mk_one x hx
 unfold r2_Of.f
 by_cases c : x < 0
 ·refine Ev.congr (fun k => if_pos c) ?_
  rw [abs_u x ⟨hx.1, c⟩, tmod_nn (by omega), tdiv_nn (by omega), Int.emod_emod_of_dvd _ (Int.dvd_refl _), u64 (x := -x / 4294967296) (by omega) (by omega), show (-x) / 4294967296 % 4294967296 = (-x) / 4294967296 by omega]
  obtain ⟨w, v⟩ := two_val (-x) (by omega) (by omega)
  have h := rmake true [(-x) % 4294967296, (-x) / 4294967296] [1] w (Wf.one (by omega) (by omega)) (by simp) (by simp)
  rw [decide_eq_true c] at hm ⊢
  rw [v, val_one, show (-x).toNat = x.natAbs by omega, show (1 : Int).toNat = 1 from rfl, hm] at h
  exact Ev.bind h (Ev.now _)
 ·refine Ev.congr (fun k => if_neg c) ?_
  rw [u64 (x := x) (by omega) (by omega), tmod_nn (by omega), tdiv_nn (by omega), Int.emod_emod_of_dvd _ (Int.dvd_refl _), u64 (x := x / 4294967296) (by omega) (by omega), show x / 4294967296 % 4294967296 = x / 4294967296 by omega]
  obtain ⟨w, v⟩ := two_val x (by omega) (by omega)
  have h := rmake false [x % 4294967296, x / 4294967296] [1] w (Wf.one (by omega) (by omega)) (by simp) (by simp)
  rw [decide_eq_false c] at hm ⊢
  rw [v, val_one, show x.toNat = x.natAbs by omega, show (1 : Int).toNat = 1 from rfl, hm] at h
  exact Ev.bind h (Ev.now _)
end Go.Proofs.Ytgffficaoioljaa.PlN
end
