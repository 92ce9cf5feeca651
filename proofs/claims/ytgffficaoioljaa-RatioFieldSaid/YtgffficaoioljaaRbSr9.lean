import Derived.Test.YtgffficaoioljaaRbSr8
import Derived.Test.YtgffficaoioljaaRbN
set_option linter.all false
section
namespace Go.Ab
open Go Go.Proofs Go.Proofs.Ytgffficaoioljaa.Pl
set_option maxRecDepth 100000
set_option maxHeartbeats 4000000
theorem mk_scale (b : Bool) {u v k : Int} (hk : 0 < k) : mkR b (u * k) (v * k) = mkR b u v := by
  have hk0 : k ≠ 0 := by omega
  have hv : v * k = 0 ↔ v = 0 := by simp [Int.mul_eq_zero, hk0]
  have hu : u * k = 0 ↔ u = 0 := by simp [Int.mul_eq_zero, hk0]
  have hg : ((Int.gcd (u * k) (v * k) : Nat) : Int) = (Int.gcd u v : Nat) * k := by
    rw [Int.gcd_mul_right, Int.natCast_mul, Int.natAbs_of_nonneg (by omega)]
  unfold mkR
  by_cases h1 : v = 0
  · rw [if_pos (hv.2 h1), if_pos h1]
  rw [if_neg (fun h => h1 (hv.1 h)), if_neg h1]
  by_cases h2 : u = 0
  · rw [if_pos (hu.2 h2), if_pos h2]
  rw [if_neg (fun h => h2 (hu.1 h)), if_neg h2, hg, Int.mul_ediv_mul_of_pos_left _ _ hk, Int.mul_ediv_mul_of_pos_left _ _ hk]
theorem mk_cross (b : Bool) {u v u' v' : Int} (hv : 0 < v) (hv' : 0 < v') (h : u * v' = u' * v) : mkR b u v = mkR b u' v' := by
  rw [← mk_scale b (u := u) hv', ← mk_scale b (u := u') hv, h, Int.mul_comm v v']
theorem mk_sign (b b' : Bool) (v : Int) : mkR b 0 v = mkR b' 0 v := by
  unfold mkR
  split
  · rfl
  · rw [if_pos rfl, if_pos rfl]
def sg (p : RT) : Int := if p.1 = true then -val p.2.1 else val p.2.1
def mkZ (z v : Int) : RT × Int := mkR (decide (z < 0)) (if z < 0 then -z else z) v
theorem mkZ_pos {z v : Int} (b : Bool) (h : 0 ≤ z) (hb : z ≠ 0 → b = false) : mkR b z v = mkZ z v := by
  unfold mkZ
  rw [if_neg (by omega), decide_eq_false (by omega)]
  by_cases hz : z = 0
  · rw [hz]; exact mk_sign _ _ _
  · rw [hb hz]
theorem mkZ_neg {z v : Int} (b : Bool) (h : 0 ≤ z) (hb : z ≠ 0 → b = true) : mkR b z v = mkZ (-z) v := by
  unfold mkZ
  by_cases hz : z = 0
  · subst hz
    simp only [Int.neg_zero, Int.lt_irrefl, if_false]
    exact mk_sign _ _ _
  · rw [if_pos (by omega), decide_eq_true (by omega), hb hz, Int.neg_neg]
theorem mkZ_cross {z v z' v' : Int} (hv : 0 < v) (hv' : 0 < v') (h : z * v' = z' * v) : mkZ z v = mkZ z' v' := by
  have hs : z < 0 ↔ z' < 0 := by
    constructor
    · intro hz
      have : z' * v < 0 := by rw [← h]; exact Int.mul_neg_of_neg_of_pos hz hv'
      rcases Int.lt_or_le z' 0 with h0 | h0
      · exact h0
      · have := Int.mul_nonneg h0 (Int.le_of_lt hv); omega
    · intro hz
      have : z * v' < 0 := by rw [h]; exact Int.mul_neg_of_neg_of_pos hz hv
      rcases Int.lt_or_le z 0 with h0 | h0
      · exact h0
      · have := Int.mul_nonneg h0 (Int.le_of_lt hv'); omega
  unfold mkZ
  by_cases hz : z < 0
  · have hz' := hs.1 hz
    rw [if_pos hz, if_pos hz', decide_eq_true hz, decide_eq_true hz']
    exact mk_cross _ hv hv' (by rw [Int.neg_mul, Int.neg_mul, h])
  · have hz' : ¬ z' < 0 := fun h => hz (hs.2 h)
    rw [if_neg hz, if_neg hz', decide_eq_false hz, decide_eq_false hz']
    exact mk_cross _ hv hv' h
theorem mul_Z (p q : RT) (hp : RM p) (hq : RM q) : mulR p q = mkZ (sg p * sg q) (val p.2.2 * val q.2.2) := by
  have h0 := Int.mul_nonneg (val_nonneg hp.wn) (val_nonneg hq.wn)
  obtain ⟨b1, n1, d1⟩ := p
  obtain ⟨b2, n2, d2⟩ := q
  simp only [mulR, sg] at *
  cases b1 <;> cases b2
  · exact mkZ_pos _ h0 (fun _ => rfl)
  · have := mkZ_neg (v := val d1 * val d2) true h0 (fun _ => rfl)
    simpa [Int.mul_neg] using this
  · have := mkZ_neg (v := val d1 * val d2) true h0 (fun _ => rfl)
    simpa [Int.neg_mul] using this
  · have := mkZ_pos (v := val d1 * val d2) false h0 (fun _ => rfl)
    simpa [Int.neg_mul_neg] using this
theorem add_Z (p q : RT) (hp : RM p) (hq : RM q) : addR p q = mkZ (sg p * val q.2.2 + sg q * val p.2.2) (val p.2.2 * val q.2.2) := by
  have h1 := Int.mul_nonneg (val_nonneg hp.wn) (val_nonneg hq.wd)
  have h2 := Int.mul_nonneg (val_nonneg hq.wn) (val_nonneg hp.wd)
  obtain ⟨b1, n1, d1⟩ := p
  obtain ⟨b2, n2, d2⟩ := q
  simp only [addR, sg] at *
  generalize val d1 * val d2 = z at *
  cases b1 <;> cases b2
  · rw [if_pos rfl]
    simp only [Bool.false_eq_true, if_false]
    exact mkZ_pos _ (by omega) (fun _ => rfl)
  · rw [if_neg (by decide)]
    simp only [Bool.false_eq_true, if_false, if_true, Int.neg_mul]
    generalize val n1 * val d2 = x at *
    generalize val n2 * val d1 = y at *
    by_cases hc : x < y
    · rw [if_pos hc]
      have := mkZ_neg (v := z) true (z := y - x) (by omega) (fun _ => rfl)
      rw [this, show -(y - x) = x + -y by omega]
    · rw [if_neg hc, show x + -y = x - y by omega]
      exact mkZ_pos _ (by omega) (fun _ => rfl)
  · rw [if_neg (by decide)]
    simp only [Bool.false_eq_true, if_false, if_true, Int.neg_mul]
    generalize val n1 * val d2 = x at *
    generalize val n2 * val d1 = y at *
    by_cases hc : x < y
    · rw [if_pos hc, show -x + y = y - x by omega]
      exact mkZ_pos _ (by omega) (fun _ => rfl)
    · rw [if_neg hc]
      have := mkZ_neg (v := z) true (z := x - y) (by omega) (fun _ => rfl)
      rw [this, show -(x - y) = -x + y by omega]
  · rw [if_pos rfl]
    simp only [if_true, Int.neg_mul]
    have := mkZ_neg (v := z) true (z := val n1 * val d2 + val n2 * val d1) (by omega) (fun _ => rfl)
    rw [this, Int.neg_add]
theorem mkZ_val {z v : Int} (hv : 0 < v) (h : (mkZ z v).2 = 0) : sg (mkZ z v).1 * v = z * val (mkZ z v).1.2.2 ∧ 0 < val (mkZ z v).1.2.2 := by
  unfold mkZ at h ⊢
  generalize hu : (if z < 0 then -z else z) = u at *
  have u0 : 0 ≤ u := by rw [← hu]; split <;> omega
  have hs : ∀ w : Int, (if (decide (z < 0)) = true then -w else w) * u = w * z := by
    intro w
    rw [← hu]
    by_cases hz : z < 0
    · simp [hz, Int.neg_mul_neg]
    · simp [hz]
  generalize decide (z < 0) = b at *
  unfold mkR at h ⊢
  by_cases h1 : v = 0
  · omega
  rw [if_neg h1] at h ⊢
  by_cases h2 : u = 0
  · rw [if_pos h2] at h ⊢
    have hz : z = 0 := by rw [h2] at hu; split at hu <;> omega
    simp [sg, val, hz]
  rw [if_neg h2] at h ⊢
  by_cases hl : (N (u / (Int.gcd u v : Nat))).length ≤ 16 ∧ (N (v / (Int.gcd u v : Nat))).length ≤ 16
  · rw [if_pos hl]
    have gp : 0 < Int.gcd u v := Nat.gcd_pos_of_pos_right u.natAbs (by omega)
    have du : ((Int.gcd u v : Nat) : Int) ∣ u := Int.gcd_dvd_left ..
    have dv : ((Int.gcd u v : Nat) : Int) ∣ v := Int.gcd_dvd_right ..
    have u1 : 0 < u / (Int.gcd u v : Nat) := Int.ediv_pos_of_pos_of_dvd (by omega) (by omega) du
    have v1 : 0 < v / (Int.gcd u v : Nat) := Int.ediv_pos_of_pos_of_dvd (by omega) (by omega) dv
    have e1 := Int.mul_ediv_cancel' du
    have e2 := Int.mul_ediv_cancel' dv
    have gp' : (0 : Int) < (Int.gcd u v : Nat) := by omega
    simp only [sg]
    rw [N_val (Int.le_of_lt u1), N_val (Int.le_of_lt v1)]
    generalize u / (Int.gcd u v : Nat) = a at *
    generalize v / (Int.gcd u v : Nat) = c at *
    generalize ((Int.gcd u v : Nat) : Int) = g at *
    refine ⟨?_, v1⟩
    have hg0 : g ≠ 0 := by omega
    have e3 := hs a
    cases b
    · simp at e3 ⊢
      rw [← e2]
      have : u = z := Int.eq_of_mul_eq_mul_left (by omega : a ≠ 0) e3
      rw [← this, ← e1]; grind
    · simp at e3 ⊢
      rw [← e2]
      have : -u = z := Int.eq_of_mul_eq_mul_left (by omega : a ≠ 0) (by rw [Int.mul_neg, ← Int.neg_mul]; exact e3)
      rw [← this, ← e1]; grind
  · rw [if_neg hl] at h; simp at h
theorem form_Z {p : RT} (hp : RW p) (h : formR p = true) : mkZ (sg p) (val p.2.2) = (p, 0) ∧ 0 < val p.2.2 := by
  obtain ⟨a1, a2, a3, t1, t2, a6, a7⟩ := form_len h
  have vd := val_ne hp.wd t2 a3
  have n0 := val_nonneg hp.wn
  have d0 := val_nonneg hp.wd
  have en : N (val p.2.1) = p.2.1 := by rw [← trim_N hp.wn, t1]
  have ed : N (val p.2.2) = p.2.2 := by rw [← trim_N hp.wd, t2]
  refine ⟨?_, by omega⟩
  have key : mkR p.1 (val p.2.1) (val p.2.2) = (p, 0) := by
    obtain ⟨b, n, d⟩ := p
    simp only at *
    unfold mkR
    rw [if_neg vd]
    by_cases hu : val n = 0
    · rw [if_pos hu]
      rw [hu, N_zero] at en
      have hd : val d = 1 := by
        rw [hu, Int.gcd_zero_left] at a7
        omega
      have hb : b = false := by
        cases b
        · rfl
        · exact absurd (by rw [← en]; rfl) (a6 rfl)
      rw [← en, ← ed, hd, hb, (N_eq_one (by decide)).2 rfl]
    · rw [if_neg hu, a7, show ((1 : Nat) : Int) = 1 from rfl, Int.ediv_one, Int.ediv_one, en, ed, if_pos ⟨a1, a2⟩]
  rw [← key]
  unfold sg
  cases hb : p.1
  · simp only [Bool.false_eq_true, if_false]
    exact (mkZ_pos _ n0 (fun _ => rfl)).symm
  · simp only [if_true]
    exact (mkZ_neg _ n0 (fun _ => rfl)).symm
theorem add_comm' (p q : RT) (hp : RM p) (hq : RM q) : addR p q = addR q p := by
  rw [add_Z p q hp hq, add_Z q p hq hp, Int.add_comm, Int.mul_comm (val p.2.2)]
theorem mul_comm' (p q : RT) (hp : RM p) (hq : RM q) : mulR p q = mulR q p := by
  rw [mul_Z p q hp hq, mul_Z q p hq hp, Int.mul_comm (sg p), Int.mul_comm (val p.2.2)]
theorem add_turn {p : RT} (hp : RW p) (h : formR p = true) : addR p (turnR p) = (r0, 0) := by
  have hM := RM.of hp h
  have hz := form_Z hp h
  have tl := turn_len hp.wn hp.wd h
  have ht : RM (turnR p) := ⟨N_wf _, N_wf _, tl.1, tl.2⟩
  have n0 := val_nonneg hp.wn
  have e1 : sg (turnR p) = -sg p := by
    have e : val (turnR p).2.1 = val p.2.1 := N_val n0
    unfold sg
    rw [e]
    by_cases hn : 0 < p.2.1.length
    · cases hb : p.1 <;> simp [turnR, hb, hn]
    · have : val p.2.1 = 0 := by rw [List.eq_nil_of_length_eq_zero (l := p.2.1) (by omega)]; rfl
      rw [this]; simp
  have e2 : val (turnR p).2.2 = val p.2.2 := N_val (val_nonneg hp.wd)
  rw [add_Z p _ hM ht, e1, e2, Int.neg_mul, Int.add_right_neg]
  have hd := hz.2
  rw [mkZ_cross (z := 0) (v := val p.2.2 * val p.2.2) (z' := 0) (v' := 1) (Int.mul_pos hd hd) (by decide) (by simp)]
  exact mk_zero
theorem div_mul {p q : RT} (hp : RW p) (hq : RW q) (fp : formR p = true) (fq : formR q = true) (hn : q.2.1.length ≠ 0) (h : (mulR p q).2 = 0) : divR (mulR p q).1 q = (p, 0) := by
  have zp := form_Z hp fp
  have zq := form_Z hq fq
  have mp := RM.of hp fp
  have mq := RM.of hq fq
  obtain ⟨c1, c2, c3, t1, t2, c6, c7⟩ := form_len fq
  have nq : 0 < val q.2.1 := by
    have := val_ne hq.wn t1 hn
    have := val_nonneg hq.wn
    omega
  have hm := mul_Z p q mp mq
  rw [hm] at h ⊢
  have hv := mkZ_val (Int.mul_pos zp.2 zq.2) h
  have wn : 0 ≤ val (mkZ (sg p * sg q) (val p.2.2 * val q.2.2)).1.2.1 := by
    rw [← hm]; exact val_nonneg (mkR_M _ _ _).wn
  generalize (mkZ (sg p * sg q) (val p.2.2 * val q.2.2)).1 = r at *
  rw [← zp.1]
  unfold divR
  rw [if_neg hn]
  have hw := Int.mul_nonneg wn (Int.le_of_lt zq.2)
  obtain ⟨hv1, hv2⟩ := hv
  have hden := Int.mul_pos hv2 nq
  have fin : ∀ s : Int, sg q = s * val q.2.1 → s * s = 1 → mkZ (sg r * val q.2.2 * s) (val r.2.2 * val q.2.1) = mkZ (sg p) (val p.2.2) := by
    intro s hs hss
    refine mkZ_cross hden zp.2 ?_
    rw [hs] at hv1
    have e : sg r * val q.2.2 * s * val p.2.2 = s * (sg r * (val p.2.2 * val q.2.2)) := by grind
    rw [e, hv1]
    have e2 : s * (sg p * (s * val q.2.1) * val r.2.2) = (s * s) * (sg p * (val r.2.2 * val q.2.1)) := by grind
    rw [e2, hss, Int.one_mul]
  cases hb : q.1
  · have := fin 1 (by simp [sg, hb]) (by decide)
    rw [← this]
    cases hc : r.1
    · simp only [sg, hc, Bool.false_eq_true, if_false, Int.mul_one]
      exact mkZ_pos _ hw (fun _ => rfl)
    · simp only [sg, hc, if_true, Int.mul_one, Int.neg_mul]
      exact mkZ_neg _ hw (fun _ => rfl)
  · have := fin (-1) (by simp [sg, hb]) (by decide)
    rw [← this]
    cases hc : r.1
    · simp only [sg, hc, Bool.false_eq_true, if_false, Int.mul_neg, Int.mul_one]
      exact mkZ_neg _ hw (fun _ => rfl)
    · simp only [sg, hc, if_true, Int.neg_mul, Int.mul_neg, Int.mul_one, Int.neg_neg]
      exact mkZ_pos _ hw (fun _ => rfl)
theorem dist {a b c : RT} (ha : RW a) (hb : RW b) (hc : RW c) (fa : formR a = true) (fb : formR b = true) (fc : formR c = true)
    (h1 : (addR b c).2 = 0) (h2 : (mulR a b).2 = 0) (h3 : (mulR a c).2 = 0) : mulR a (addR b c).1 = addR (mulR a b).1 (mulR a c).1 := by
  have za := form_Z ha fa
  have zb := form_Z hb fb
  have zc := form_Z hc fc
  have ma := RM.of ha fa
  have mb := RM.of hb fb
  have mc := RM.of hc fc
  have m1 : RM (addR b c).1 := opR_M false b c
  have m2 : RM (mulR a b).1 := opR_M true a b
  have m3 : RM (mulR a c).1 := opR_M true a c
  rw [mul_Z a _ ma m1, add_Z _ _ m2 m3]
  have v1 := mkZ_val (z := sg b * val c.2.2 + sg c * val b.2.2) (Int.mul_pos zb.2 zc.2) (by rw [← add_Z b c mb mc]; exact h1)
  have v2 := mkZ_val (z := sg a * sg b) (Int.mul_pos za.2 zb.2) (by rw [← mul_Z a b ma mb]; exact h2)
  have v3 := mkZ_val (z := sg a * sg c) (Int.mul_pos za.2 zc.2) (by rw [← mul_Z a c ma mc]; exact h3)
  rw [← add_Z b c mb mc] at v1
  rw [← mul_Z a b ma mb] at v2
  rw [← mul_Z a c ma mc] at v3
  generalize (addR b c).1 = s at *
  generalize (mulR a b).1 = p at *
  generalize (mulR a c).1 = u at *
  refine mkZ_cross (Int.mul_pos za.2 v1.2) (Int.mul_pos v2.2 v3.2) ?_
  have e1 := v1.1
  have e2 := v2.1
  have e3 := v3.1
  have k : 0 < val b.2.2 * val c.2.2 := Int.mul_pos zb.2 zc.2
  refine Int.eq_of_mul_eq_mul_right (Int.ne_of_gt k) ?_
  have l1 : sg a * sg s * (val p.2.2 * val u.2.2) * (val b.2.2 * val c.2.2) = sg a * (val p.2.2 * val u.2.2) * (sg s * (val b.2.2 * val c.2.2)) := by grind
  have l2 : (sg p * val u.2.2 + sg u * val p.2.2) * (val a.2.2 * val s.2.2) * (val b.2.2 * val c.2.2) = val s.2.2 * ((sg p * (val a.2.2 * val b.2.2)) * (val u.2.2 * val c.2.2) + (sg u * (val a.2.2 * val c.2.2)) * (val p.2.2 * val b.2.2)) := by grind
  rw [l1, l2, e1, e2, e3]
  grind
end Go.Ab
end
