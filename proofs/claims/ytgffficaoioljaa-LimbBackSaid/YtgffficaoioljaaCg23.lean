import Derived.Test.YtgffficaoioljaaCg14
import Derived.Test.YtgffficaoioljaaCg17
import Derived.Test.YtgffficaoioljaaCg22
import Derived.Test.YtgffficaoioljaaCg11
import Derived.Test.YtgffficaoioljaaCg20
import Derived.Test.YtgffficaoioljaaCg21
import Derived.Test.YtgffficaoioljaaCg15
import Derived.Test.YtgffficaoioljaaCg18
import Derived.Test.YtgffficaoioljaaCg12
section
namespace Go.Proofs.Ytgffficaoioljaa.PlN
open Go.RowKit Go.Proofs.Ytgffficaoioljaa.P Go.Proofs.Ytgffficaoioljaa.Pl Go.Proofs.Ytgffficaoioljaa.PlA Go.Proofs.YtgffficaoioljaaW.PrintWords Go.Proofs.YtgffficaoioljaaW.PrintLast Go.Proofs.YtgffficaoioljaaW.PrintMore
set_option linter.unusedVariables false
theorem limbNorm (l : List Int) (hl : l.length < 35184372088832) : Ev (fun k => limb_Norm.f k l) (fitOf (trim l)) := fitted (natsTrim l hl)
def formOf (l : List Int) : Bool := if l.length ≤ 16 then (if l.length = 0 then true else rd l ((l.length - 1 : Nat) : Int) != 0) else false
theorem limbForm (l : List Int) : limb_Form.f l = some (formOf l) := by
  unfold limb_Form.f formOf
  by_cases h1 : l.length ≤ 16
  · rw [if_pos (by omega), if_pos h1]
    by_cases h2 : l.length = 0
    · rw [if_pos (by omega), if_pos h2]
    · have e1 : wrap64 ((l.length : Int) - 1) = ((l.length - 1 : Nat) : Int) := by rw [w64 (by omega) (by omega)]; omega
      rw [if_neg (by omega), if_neg h2, e1, if_pos (by omega), if_pos (by omega)]
  · rw [if_neg (by omega), if_neg h1]
end Go.Proofs.Ytgffficaoioljaa.PlN
end
section
namespace Go.Proofs.Ytgffficaoioljaa.PlN
open Go.RowKit Go.Proofs.Ytgffficaoioljaa.P Go.Proofs.Ytgffficaoioljaa.Pl Go.Proofs.Ytgffficaoioljaa.PlA Go.Proofs.YtgffficaoioljaaW.PrintWords Go.Proofs.YtgffficaoioljaaW.PrintLast Go.Proofs.YtgffficaoioljaaW.PrintMore
set_option linter.unusedVariables false
theorem Is.form {r : List Int} {v : Int} (h : Is r v) (hl : r.length ≤ 16) : formOf r = true := by
  unfold formOf
  rw [if_pos hl]
  by_cases h0 : r.length = 0
  · rw [if_pos h0]
  · rw [if_neg h0]
    have := top_nonzero h.wf h.nm h0
    simp; omega
theorem bits_val {l : List Int} (hw : Wf l) : bitsOf (trim l) = 0 ↔ val l = 0 := by
  have ia := Is.of hw rfl
  rw [bitsOf_zero ia.wf ia.nm]
  exact ia.zero_iff
theorem limbQR (a b : List Int) (ha : Wf a) (hb : Wf b) (hl : a.length ≤ 35184372088830) (hlb : b.length ≤ 35184372088830) (h : val b ≠ 0) : ∃ q r, Is q (val a / val b) ∧ Is r (val a % val b) ∧
    Ev (fun k => limb_QuoRem.f k a b) (if q.length > 16 ∨ r.length > 16 then ([], [], 4) else (q, r, 0)) := by
  obtain ⟨q, r, h1, h2, h3⟩ := quorem a b ha hb hl hlb h
  refine ⟨q, r, h2, h3, ?_⟩
  unfold limb_QuoRem.f
  refine Ev.bind (natsBits b hb (by omega)) ?_
  refine Ev.congr (fun k => if_neg (fun e => h ((bits_val hb).1 e))) ?_
  refine Ev.bind h1 ?_
  by_cases c1 : q.length > 16
  · rw [show (if q.length > 16 ∨ r.length > 16 then (([] : List Int), ([] : List Int), (4 : Int)) else (q, r, 0)) = ([], [], 4) from if_pos (.inl c1)]
    exact Ev.congr (fun k => if_pos (show (q.length : Int) > 16 by omega)) (Ev.now _)
  · refine Ev.congr (fun k => if_neg (show ¬ (q.length : Int) > 16 by omega)) ?_
    by_cases c2 : r.length > 16
    · rw [show (if q.length > 16 ∨ r.length > 16 then (([] : List Int), ([] : List Int), (4 : Int)) else (q, r, 0)) = ([], [], 4) from if_pos (.inr c2)]
      exact Ev.congr (fun k => if_pos (show (r.length : Int) > 16 by omega)) (Ev.now _)
    · rw [show (if q.length > 16 ∨ r.length > 16 then (([] : List Int), ([] : List Int), (4 : Int)) else (q, r, 0)) = (q, r, 0) from if_neg (by omega)]
      exact Ev.congr (fun k => if_neg (show ¬ (r.length : Int) > 16 by omega)) (Ev.now _)
end Go.Proofs.Ytgffficaoioljaa.PlN
end
section
namespace Go.Proofs.Ytgffficaoioljaa.PlN
open Go.RowKit Go.Proofs.Ytgffficaoioljaa.P Go.Proofs.Ytgffficaoioljaa.Pl Go.Proofs.Ytgffficaoioljaa.PlA Go.Proofs.YtgffficaoioljaaW.PrintWords Go.Proofs.YtgffficaoioljaaW.PrintLast Go.Proofs.YtgffficaoioljaaW.PrintMore
set_option linter.unusedVariables false
theorem pow16 : (4294967296 : Int) ^ 16 < 1000000000 ^ 18 ∧ (4294967296 : Int) ^ 16 < 10 ^ 155 := by decide +kernel
theorem limbText (a : List Int) (ha : Wf a) (hl : a.length ≤ 35184372088831) (h : (trim a).length ≤ 16) : Ev (fun k => limb_Text.f k a) (textOf (val a).toNat, 0) := by
  have ia := Is.of ha rfl
  unfold limb_Text.f
  refine Ev.bind (natsBits a ha (by omega)) ?_
  have hb : ¬ bitsOf (trim a) > 512 := fun hn => absurd ((bitsOf_big ia.wf ia.nm).1 hn) (by omega)
  refine Ev.congr (fun k => if_neg hb) ?_
  have h1 := ia.lt
  have h2 := pow_le h
  exact Ev.bind (digits a ha hl (Int.lt_of_lt_of_le h1 (Int.le_trans h2 (Int.le_of_lt pow16.1)))) (Ev.now _)
theorem limbText_big (a : List Int) (ha : Wf a) (hl : a.length ≤ 35184372088831) (h : 16 < (trim a).length) : Ev (fun k => limb_Text.f k a) (⟨#[]⟩, 4) := by
  have ia := Is.of ha rfl
  unfold limb_Text.f
  refine Ev.bind (natsBits a ha (by omega)) ?_
  exact Ev.congr (fun k => if_pos ((bitsOf_big ia.wf ia.nm).2 h)) (Ev.now _)
end Go.Proofs.Ytgffficaoioljaa.PlN
end
section
namespace Go.Proofs.Ytgffficaoioljaa.PlN
open Go.RowKit Go.Proofs.Ytgffficaoioljaa.P Go.Proofs.Ytgffficaoioljaa.Pl Go.Proofs.Ytgffficaoioljaa.PlA Go.Proofs.YtgffficaoioljaaW.PrintWords Go.Proofs.YtgffficaoioljaaW.PrintLast Go.Proofs.YtgffficaoioljaaW.PrintMore
set_option linter.unusedVariables false
def lrd : List Int → Int → Int
  | [], v => v
  | x :: l, v => lrd l (10 * v + (x - 48))
theorem lrd_snoc : ∀ (l : List Int) (x v : Int), lrd (l ++ [x]) v = 10 * lrd l v + (x - 48)
  | [], _, _ => rfl
  | y :: l, x, v => by simp only [List.cons_append, lrd, lrd_snoc l x]
theorem lrd_rev : ∀ l : List Int, lrd l.reverse 0 = dval l
  | [] => rfl
  | x :: l => by
    rw [List.reverse_cons, lrd_snoc, lrd_rev l]
    simp only [dval]
    omega
theorem dval_dig (v : Nat) : dval (dig v) = v := by
  induction v using Nat.strongRecOn with
  | _ v ih =>
    by_cases h : v = 0
    · rw [h, dig_zero]; rfl
    · rw [dig_pos h]
      simp only [dval]
      rw [ih (v / 10) (by omega)]
      omega
theorem bt_str (l : List Int) (i : Nat) (hi : i < l.length) (h : 48 ≤ rd l (i : Int) ∧ rd l (i : Int) ≤ 57) : bt (strOfNums l) (i : Int) = rd l (i : Int) := by
  have hs : i < (strOfNums l).size := by rw [strOfNums_size]; exact hi
  have hr := rd_of hi
  unfold bt
  rw [dif_pos (by rw [Int.toNat_natCast]; exact hs)]
  rw [hr] at h ⊢
  have e : (strOfNums l)[i]'hs = UInt8.ofNat (l[i]).toNat := by
    show (strOfNums l).data[i]'_ = _
    simp [strOfNums]
  simp only [Int.toNat_natCast, e]
  rw [UInt8.toNat_ofNat']
  omega
theorem rdval_str (l : List Int) (hd : Digs l) : ∀ (d pos : Nat) (v : Int), d + pos = l.length → rdval (strOfNums l) d pos v = lrd (l.drop pos) v
  | 0, pos, v, h => by
    rw [List.drop_of_length_le (by omega)]; rfl
  | d + 1, pos, v, h => by
    have hp : pos < l.length := by omega
    have h1 := hd _ (List.getElem_mem hp)
    rw [← rd_of hp] at h1
    rw [drop_rd hp]
    simp only [rdval, lrd]
    rw [bt_str l pos hp h1, rdval_str l hd d (pos + 1) _ (by omega)]
theorem Digs.reverse {l : List Int} (h : Digs l) : Digs l.reverse := fun x hx => h x (List.mem_reverse.1 hx)
theorem read_str (l : List Int) (hd : Digs l) (h0 : l.length ≠ 0) (hl : l.length ≤ 4096) : ∃ r, Is r (lrd l 0) ∧ Ev (fun k => limb_Read.f k (strOfNums l)) (fitOf r) := by
  have hs := strOfNums_size l
  obtain ⟨r, h1, h2, _⟩ := read_all (strOfNums l) (by omega) l.length 0 [] 0 (by omega) Is.nil (by simp) (fun i _ hi => by
    rw [hs] at hi
    have h1 := hd _ (List.getElem_mem hi)
    rw [← rd_of hi] at h1
    rw [bt_str l i hi h1]
    exact h1)
  rw [rdval_str l hd l.length 0 0 (by omega), List.drop_zero] at h1
  refine ⟨r, h1, ?_⟩
  unfold limb_Read.f
  exact Ev.congr (fun k => if_neg (by omega)) (Ev.congr (fun k => if_neg (by omega)) h2)
theorem read_text (v : Nat) (hv : v < 10 ^ 155) : ∃ r, Is r (v : Int) ∧ Ev (fun k => limb_Read.f k (textOf v)) (fitOf r) := by
  unfold textOf
  by_cases h : v = 0
  · rw [if_pos h, h]
    obtain ⟨r, h1, h2⟩ := read_str [48] (Digs.one (by omega)) (by simp) (by simp)
    have e : strOfNums [48] = ⟨#[48]⟩ := by decide +kernel
    rw [e] at h2
    exact ⟨r, h1, h2⟩
  · rw [if_neg h]
    have hlen := dig_len 155 v hv
    have hne := dig_ne h
    obtain ⟨r, h1, h2⟩ := read_str (dig v).reverse (dig_wf v).reverse (by rw [List.length_reverse]; intro e; exact hne (List.eq_nil_of_length_eq_zero e)) (by rw [List.length_reverse]; omega)
    rw [lrd_rev, dval_dig] at h1
    exact ⟨r, h1, h2⟩
theorem fit_ok {r : List Int} (h : r.length ≤ 16) : fitOf r = (r, 0) := by unfold fitOf; rw [if_neg (by omega)]
theorem fit_no {r : List Int} (h : 16 < r.length) : fitOf r = ([], 4) := by unfold fitOf; rw [if_pos (by omega)]
theorem back_j2 (a b : List Int) (ha : Wf a) (hb : Wf b) (hl : a.length ≤ 35184372087808) (hlb : b.length ≤ 35184372087808) : Ev (fun k => sibyllaw01_LimbBack.j2 k a b) true := by
  obtain ⟨r, hr, hI⟩ := limbAdd a b ha hb (by omega) (by omega)
  have hbn := val_nonneg hb
  have han := val_nonneg ha
  refine Ev.step (f := fun k => (some a).bind fun t968 => (some b).bind fun t971 => (limb_Add.f k t968 t971).bind fun bt974 => if bt974.2 = 0 then (some b).bind fun t978 => (limb_Sub.f k bt974.1 t978).bind fun bt981 => if bt981.2 = 0 then (some a).bind fun t985 => (limb_Cmp.f k bt981.1 t985).bind fun t988 => some (t988 == 0) else some false else some ((bt974.1.length : Int) == 0)) (fun k => ?_) ?_
  · simp only [sibyllaw01_LimbBack.j2]
    rw [own a (by omega), own b (by omega)]
  · simp only [Option.bind_some]
    refine Ev.bind hr ?_
    rcases Nat.lt_or_ge 16 r.length with h | h
    · rw [fit_no h]
      exact Ev.congr (fun k => if_neg (by decide)) (Ev.now _)
    · rw [fit_ok h]
      refine Ev.congr (fun k => if_pos rfl) ?_
      obtain ⟨d, hd, hD⟩ := limbSub r b hI.wf hb (by omega) (by omega) (by rw [hI.val]; omega)
      rw [hI.val, show val a + val b - val b = val a from by omega] at hD
      have hdl : d.length ≤ 16 := hD.len (Int.lt_of_le_of_lt (show val a ≤ val a + val b by omega) (Int.lt_of_lt_of_le hI.lt (pow_le h)))
      rw [fit_ok hdl] at hd
      refine Ev.bind hd (Ev.congr (fun k => if_pos rfl) ?_)
      have hc := limbCmp d a hD.wf ha (by omega) (by omega)
      rw [hD.val, sgn_zero.2 rfl] at hc
      exact Ev.bind hc (Ev.now _)
theorem back_j1 (a b p : List Int) (c : Bool) (ha : Wf a) (hb : Wf b) (hl : a.length ≤ 35184372087808) (hlb : b.length ≤ 35184372087808) (h : c = true → Is p (val a * val b) ∧ p.length ≤ 16 ∧ 0 < val b) : Ev (fun k => sibyllaw01_LimbBack.j1 k a b p c) true := by
  have han := val_nonneg ha
  cases c with
  | false =>
    refine Ev.step (fun k => ?_) (back_j2 a b ha hb hl hlb)
    simp only [sibyllaw01_LimbBack.j1]
    rw [if_neg (by decide)]
  | true =>
    obtain ⟨hp, hpl, hb0⟩ := h rfl
    obtain ⟨q, r, hq, hr, hE⟩ := limbQR p b hp.wf hb (by omega) (by omega) (by omega)
    rw [hp.val, Int.mul_ediv_cancel _ (by omega)] at hq
    rw [hp.val, Int.mul_emod_left] at hr
    have er : r = [] := hr.zero_iff.2 rfl
    subst er
    have hql : q.length ≤ 16 := by
      refine hq.len (Int.lt_of_le_of_lt ?_ (Int.lt_of_lt_of_le hp.lt (pow_le hpl)))
      have : val a * 1 ≤ val a * val b := Int.mul_le_mul_of_nonneg_left (by omega) han
      omega
    rw [if_neg (show ¬ (q.length > 16 ∨ ([] : List Int).length > 16) by simp; omega)] at hE
    refine Ev.step (f := fun k => (limb_QuoRem.f k p b).bind fun bt954 => if bt954.2.2 = 0 then (limb_Cmp.f k bt954.1 a).bind fun t964 => if t964 = 0 then (if (bt954.2.1.length : Int) = 0 then sibyllaw01_LimbBack.j2 k a b else some false) else some false else (sibylref01_Trim.f k a).bind fun t965 => if (t965.length : Int) ≤ 16 then some false else sibyllaw01_LimbBack.j2 k a b) (fun k => ?_) ?_
    · simp only [sibyllaw01_LimbBack.j1]
      rw [own a (by omega), own b (by omega)]
      simp only [Option.bind_some]
      rw [if_pos trivial]
    · refine Ev.bind hE (Ev.congr (fun k => if_pos rfl) ?_)
      have hc := limbCmp q a hq.wf ha (by omega) (by omega)
      rw [hq.val, sgn_zero.2 rfl] at hc
      exact Ev.bind hc (Ev.congr (fun k => if_pos rfl) (Ev.congr (fun k => if_pos rfl) (back_j2 a b ha hb hl hlb)))
theorem back_j0 (a b : List Int) (ha : Wf a) (hb : Wf b) (hl : a.length ≤ 35184372087808) (hlb : b.length ≤ 35184372087808) : Ev (fun k => sibyllaw01_LimbBack.j0 k a b) true := by
  have ib := Is.of hb rfl
  have hbn := val_nonneg hb
  obtain ⟨p, hp, hP⟩ := limbMul a b ha hb (by omega) (by omega)
  refine Ev.step (f := fun k => (limb_Mul.f k a b).bind fun bt943 => if bt943.2 = 0 then (limb_Bits.f k b).bind fun t950 => sibyllaw01_LimbBack.j1 k a b bt943.1 (decide (t950 > 0)) else sibyllaw01_LimbBack.j1 k a b bt943.1 false) (fun k => ?_) ?_
  · simp only [sibyllaw01_LimbBack.j0]
    rw [own a (by omega), own b (by omega)]
    simp only [Option.bind_some]
  · refine Ev.bind hp ?_
    rcases Nat.lt_or_ge 16 p.length with h | h
    · rw [fit_no h]
      exact Ev.congr (fun k => if_neg (by decide)) (back_j1 a b [] false ha hb hl hlb (fun e => by cases e))
    · rw [fit_ok h]
      refine Ev.congr (fun k => if_pos rfl) (Ev.bind (limbBits b hb (by omega)) (back_j1 a b p _ ha hb hl hlb (fun e => ⟨hP, h, ?_⟩)))
      have h1 : bitsOf (trim b) > 0 := of_decide_eq_true e
      have h2 : val b ≠ 0 := fun e => by rw [(bits_val hb).2 e] at h1; omega
      omega
theorem back (a b : List Int) (ha : Wf a) (hb : Wf b) (hl : a.length ≤ 35184372087808) (hlb : b.length ≤ 35184372087808) : Ev (fun k => sibyllaw01_LimbBack.f k a b) true := by
  have ia := Is.of ha rfl
  have han := val_nonneg ha
  unfold sibyllaw01_LimbBack.f
  refine Ev.bind wakes ?_
  refine Ev.congr (fun k => if_pos rfl) ?_
  rw [own a (by omega)]
  simp only [Option.bind_some]
  refine Ev.bind (limbNorm a (by omega)) ?_
  rcases Nat.lt_or_ge 16 (trim a).length with h | h
  · rw [fit_no h]
    refine Ev.bind (limbText_big a ha (by omega) h) ?_
    exact Ev.congr (fun k => if_pos rfl) (Ev.congr (fun k => if_neg (by decide)) (back_j0 a b ha hb hl hlb))
  · rw [fit_ok h]
    refine Ev.bind (limbText a ha (by omega) h) ?_
    refine Ev.congr (fun k => if_pos rfl) (Ev.congr (fun k => if_pos rfl) ?_)
    have hlt : val a < 10 ^ 155 := Int.lt_of_lt_of_le ia.lt (Int.le_trans (pow_le h) (Int.le_of_lt pow16.2))
    obtain ⟨v, hv⟩ := Int.eq_ofNat_of_zero_le han
    obtain ⟨r, hr, hE⟩ := read_text v (by
      rw [hv] at hlt
      have : ((10 : Int) ^ 155) = ((10 ^ 155 : Nat) : Int) := by decide +kernel
      rw [this] at hlt
      exact Int.ofNat_lt.1 hlt)
    have er : r = trim a := by rw [hv] at ia; exact hr.eq ia
    rw [er, fit_ok h] at hE
    rw [hv, Int.toNat_natCast]
    refine Ev.bind hE (Ev.congr (fun k => if_pos rfl) (Ev.bind (rsame_refl (trim a) (by omega)) (Ev.congr (fun k => if_pos rfl) ?_)))
    rw [limbForm, Is.form ia h]
    simp only [Option.bind_some]
    exact Ev.congr (fun k => if_pos trivial) (back_j0 a b ha hb hl hlb)
theorem backP : sibyllaw01_LimbBack.Pure := fun l0 l1 _ h0 w0 _ h1 w1 => (back l0 l1 (wf_lit w0) (wf_lit w1) (by omega) (by omega)).rounds
end Go.Proofs.Ytgffficaoioljaa.PlN
end
section
namespace Go.Proofs.Ytgffficaoioljaa.Pure
theorem LimbBack : P.sibyllaw01_LimbBack.Pure := PlN.backP
end Go.Proofs.Ytgffficaoioljaa.Pure
end
