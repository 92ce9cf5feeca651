import Derived.Test.YtgffficaoioljaaRbOa
import Derived.Test.YtgffficaoioljaaRbI
set_option linter.all false
section
namespace Go.Ab
open Go Go.Proofs Go.Proofs.Ytgffficaoioljaa.Pl
set_option maxRecDepth 100000
set_option maxHeartbeats 8000000
theorem g_Add (a b : List Int) (ha : Wf a) (hb : Wf b) (la : a.length ≤ 35184372088000) (lb : b.length ≤ 35184372088000) : SpecG Try.prog 93 [U a, U b] [] (.hs 1000000 1 0 (N (val a + val b)).length 1) [(1, (N (val a + val b)).map u32)] := by
  refine specG_of_awp mixed Try.func93 rfl Try.call93 (by kernel_rfl) (by simp) rfl rfl (by simp) ?_
  refine w_seq (S1 ?_)
  refine w_cut (α := List Int × List Int) (fun p => [(.t 0, U p.1), (.t 1, U p.2), (.h 20, .blk 0 0 [])]) (fun p => Wf p.1 ∧ Wf p.2 ∧ p.1.length ≤ 35184372088000 ∧ p.2.length ≤ p.1.length ∧ val p.1 + val p.2 = val a + val b) ?_ ?_
  · intro J hJ
    by_cases h : a.length < b.length
    · refine T ?_
      exact hJ _ (b, a) ⟨hb, ha, lb, by show a.length ≤ b.length; omega, Int.add_comm _ _⟩ Hv
    · refine T ?_
      exact hJ _ (a, b) ⟨ha, hb, la, by show b.length ≤ a.length; omega, rfl⟩ Hv
  rintro ⟨x, y⟩ r ⟨hx, hy, lx, h, hv⟩
  simp only at hx hy lx h hv
  refine T (w_loop (α := Nat × Nat × Int × List Int) (fun p => [(.t 0, U x), (.t 1, U y), (.t 5, .hs 20 p.2.1 0 p.1 1), (.t 6, u32 p.2.2.1), (.t 22, .sc (.int .i64 x.length)), (.t 23, .sc (.int .i64 p.1)), (.h 20, .blk p.2.1 2 (p.2.2.2.map u32))])
    (fun p => p.1 ≤ x.length ∧ p.2.2.2.length = p.1 ∧ Wf p.2.2.2 ∧ 0 ≤ p.2.2.1 ∧ p.2.2.1 < 2 ∧ val (x.take p.1) + val (y.take p.1) = val p.2.2.2 + 4294967296 ^ p.1 * p.2.2.1)
    (fun p => x.length - p.1) (0, 1, 0, []) ⟨Nat.zero_le _, rfl, Wf.nil, by decide, by decide, by simp [val]⟩ ?_ ?_)
  · exact Hv
  rintro ⟨i, g, c, o⟩ r ⟨h1, h2, h3, h4, h5, h6⟩ J hJ
  simp only at h1 h2 h3 h4 h5 h6
  have H6 := Hd.mk h6
  clear h6
  by_cases hi : i < x.length
  · have hai := getD_wf hx hi
    have fin : ∀ z : Int, 0 ≤ z → z < 4294967296 → val (y.take (i + 1)) = val (y.take i) + 4294967296 ^ i * z →
        val (x.take (i + 1)) + val (y.take (i + 1)) = val (o ++ [(x.getD i 0 + z + c) % 4294967296]) + 4294967296 ^ (i + 1) * ((x.getD i 0 + z + c) / 4294967296) := by
      intro z _ _ hy
      rw [val_take_snoc hi, hy, val_snoc, h2, Int.pow_succ]
      exact add_step H6.out (by have := Int.mul_ediv_add_emod (x.getD i 0 + z + c) 4294967296; omega)
    by_cases hyi : i < y.length
    · have hyi' := getD_wf hy hyi
      refine T (call_by (s_Add32 _ _ _ hai.1 hai.2 hyi'.1 hyi'.2 h4 h5) ?_)
      refine T ?_
      refine hJ _ (i + 1, g + 1, (x.getD i 0 + y.getD i 0 + c) / 4294967296, o ++ [(x.getD i 0 + y.getD i 0 + c) % 4294967296]) ?_ ⟨?_, ?_, ?_, ?_, ?_, ?_⟩ ?_
      · show x.length - (i + 1) < x.length - i; omega
      · exact hi
      · simp [h2]
      · exact Wf.append h3 (Wf.one (by omega) (by omega))
      · show 0 ≤ _ / _; omega
      · show _ / _ < 2; omega
      · exact fin _ hyi'.1 hyi'.2 (val_take_snoc hyi)
      · exact Hv
    · refine T (call_by (s_Add32 _ 0 _ hai.1 hai.2 (by decide) (by decide) h4 h5) ?_)
      refine T ?_
      refine hJ _ (i + 1, g + 1, (x.getD i 0 + 0 + c) / 4294967296, o ++ [(x.getD i 0 + 0 + c) % 4294967296]) ?_ ⟨?_, ?_, ?_, ?_, ?_, ?_⟩ ?_
      · show x.length - (i + 1) < x.length - i; omega
      · exact hi
      · simp [h2]
      · exact Wf.append h3 (Wf.one (by omega) (by omega))
      · show 0 ≤ _ / _; omega
      · show _ / _ < 2; omega
      · exact fin 0 (by decide) (by decide) (by rw [List.take_of_length_le (by omega), List.take_of_length_le (by omega)]; simp)
      · exact Hv
  · have hi' : i = x.length := by omega
    refine T ?_
    have hw : Wf (o ++ [c]) := Wf.append h3 (Wf.one h4 (by omega))
    have h6 := H6.out
    rw [hi', List.take_length, List.take_of_length_le (by omega)] at h6
    have et : trim (o ++ [c]) = N (val a + val b) := by rw [trim_N hw, val_snoc, h2, hi', ← h6, hv]
    have lt := trim_len (o ++ [c])
    have tk := trim_take (o ++ [c])
    refine call_cut (o ++ [c]) 20 (g + 1) rfl (by simp; omega) (by simp [h2]) Hv ?_
    rw [et] at lt tk ⊢
    refine T (r_retG [(20, g + 1)] (by simp) ?_ ?_)
    · trivial
    rw [Try.results93]
    refine RG ?_
    exact ⟨Nat.le_refl _, Wk.refl _, by rw [tk]⟩
theorem g_Mul (a b : List Int) (ha : Wf a) (hb : Wf b) (la : a.length ≤ 35184372088000) (lb : b.length ≤ 35184372088000) : SpecG Try.prog 81 [U a, U b] [] (.hs 1000000 1 0 (N (val a * val b)).length 1) [(1, (N (val a * val b)).map u32)] := by
  refine specG_of_awp mixed Try.func81 rfl Try.call81 (by kernel_rfl) (by simp) rfl rfl (by simp) ?_
  refine T (call_by (s_cut a (by omega)) ?_)
  refine T (call_by (s_cut b (by omega)) ?_)
  have la' := trim_len a
  have lb' := trim_len b
  have ix := Is.of ha rfl
  have iy := Is.of hb rfl
  generalize trim a = x at *
  generalize trim b = y at *
  have hx := ix.wf
  have hy := iy.wf
  refine T ?_
  refine w_loop (α := Nat × List Int) (fun p => [(.t 0, U x), (.t 1, U y), (.t 5, .hs 21 1 0 (x.length + y.length) 1), (.t 22, U x), (.t 23, .sc (.int .i64 x.length)), (.t 24, .sc (.int .i64 p.1)), (.h 21, .blk 1 2 (p.2.map u32))])
    (fun p => p.1 ≤ x.length ∧ p.2.length = x.length + y.length ∧ Wf p.2 ∧ (∀ k, p.1 + y.length ≤ k → p.2.getD k 0 = 0) ∧ val (p.2.take (p.1 + y.length)) = val (x.take p.1) * val y)
    (fun p => x.length - p.1) (0, List.replicate (x.length + y.length) 0) ⟨Nat.zero_le _, by simp, Wf.zeros _, fun k _ => by simp [List.getD_eq_getElem?_getD, List.getElem?_replicate]; split <;> rfl, by simp [val, List.take_replicate, val_zeros]⟩ ?_ ?_
  · exact Hv
  rintro ⟨i, o⟩ r ⟨h1, h2, h3, h4, h5⟩ J hJ
  simp only at h1 h2 h3 h4 h5
  have H5 := Hd.mk h5
  clear h5
  by_cases hi : i < x.length
  · have hai := hx.at i
    refine T ?_
    refine w_loop (α := Nat × Int × List Int) (fun p => [(.t 0, U x), (.t 1, U y), (.t 5, .hs 21 1 0 (x.length + y.length) 1), (.t 6, .sc (.int .i64 i)), (.t 7, u32 (x.getD i 0)), (.t 8, .sc (.int .u64 p.2.1)), (.t 22, U x), (.t 23, .sc (.int .i64 x.length)), (.t 24, .sc (.int .i64 i)),
        (.t 29, U y), (.t 30, .sc (.int .i64 y.length)), (.t 31, .sc (.int .i64 p.1)), (.h 21, .blk 1 2 (p.2.2.map u32))])
      (fun p => p.1 ≤ y.length ∧ p.2.2.length = x.length + y.length ∧ Wf p.2.2 ∧ 0 ≤ p.2.1 ∧ p.2.1 < 4294967296 ∧ p.2.2.drop (i + p.1) = o.drop (i + p.1) ∧
        val (p.2.2.take (i + p.1)) + 4294967296 ^ i * 4294967296 ^ p.1 * p.2.1 = val (o.take (i + p.1)) + 4294967296 ^ i * x.getD i 0 * val (y.take p.1))
      (fun p => y.length - p.1) (0, 0, o) ⟨Nat.zero_le _, h2, h3, Int.le_refl 0, (by decide : (0 : Int) < 4294967296), rfl, by simp [val]⟩ ?_ ?_
    · exact Hv
    rintro ⟨j, c, q⟩ r ⟨g1, g2, g3, g4, g5, g6, g7⟩ J2 hJ2
    simp only at g1 g2 g3 g4 g5 g6 g7
    have G7 := Hd.mk g7
    clear g7
    by_cases hj : j < y.length
    · have hyj := hy.at j
      have hq := g3.at (i + j)
      have hm := mul_bd hai hyj
      have fin : ∀ s c2 : Int, s + 4294967296 * c2 = x.getD i 0 * y.getD j 0 + q.getD (i + j) 0 + c →
          val ((q.set (i + j) s).take (i + (j + 1))) + 4294967296 ^ i * 4294967296 ^ (j + 1) * c2 = val (o.take (i + (j + 1))) + 4294967296 ^ i * x.getD i 0 * val (y.take (j + 1)) := by
        intro s c2 e
        have hqo : o.getD (i + j) 0 = q.getD (i + j) 0 := by
          have := congrArg (fun l => l.getD 0 0) g6
          simpa [List.getD_eq_getElem?_getD, List.getElem?_drop] using this.symm
        rw [show i + (j + 1) = i + j + 1 from rfl, val_take_set (by omega), val_take_at o, val_take_at y, hqo, pow_snoc, Int.pow_add]
        exact mul_step G7.out e
      refine T ?_
      refine hJ2 _ (j + 1, (x.getD i 0 * y.getD j 0 + q.getD (i + j) 0 + c) / 4294967296, q.set (i + j) ((x.getD i 0 * y.getD j 0 + q.getD (i + j) 0 + c) % 4294967296)) ?_ ⟨hj, by simp [g2], g3.set _ (by omega) (by omega), ?_, ?_, ?_, fin ((x.getD i 0 * y.getD j 0 + q.getD (i + j) 0 + c) % 4294967296) ((x.getD i 0 * y.getD j 0 + q.getD (i + j) 0 + c) / 4294967296) (by omega)⟩ ?_
      · show y.length - (j + 1) < y.length - j; omega
      · show 0 ≤ _ / _; omega
      · show _ / _ < (4294967296 : Int); omega
      · show (q.set (i + j) _).drop (i + j + 1) = o.drop (i + j + 1)
        rw [drop_set_lt (by omega), ← List.drop_drop, g6, List.drop_drop]
      · exact Hv
    · have hj' : j = y.length := by omega
      subst hj'
      refine T ?_
      refine hJ _ (i + 1, q.set (i + y.length) c) ?_ ⟨hi, by simp [g2], g3.set _ g4 g5, ?_, ?_⟩ ?_
      · show x.length - (i + 1) < x.length - i; omega
      · intro k hk
        simp only at hk
        have e := congrArg (fun l => l.getD (k - (i + y.length)) 0) g6
        simp only [List.getD_eq_getElem?_getD, List.getElem?_drop, show i + y.length + (k - (i + y.length)) = k by omega] at e
        simp only [List.getD_eq_getElem?_getD]
        rw [List.getElem?_set_ne (by omega), e]
        simpa [List.getD_eq_getElem?_getD] using h4 k (by omega)
      · have G := G7.out
        rw [List.take_length] at G
        show val ((q.set (i + y.length) c).take (i + 1 + y.length)) = val (x.take (i + 1)) * val y
        rw [show i + 1 + y.length = i + y.length + 1 by omega, val_take_set (by omega), Int.pow_add, G, val_take_at x, H5.out]
        grind
      · exact Hv
  · have hi' : i = x.length := by omega
    subst hi'
    have h5 := H5.out
    rw [List.take_length, List.take_of_length_le (by omega), ix.val, iy.val] at h5
    refine T ?_
    have et : trim o = N (val a * val b) := by rw [trim_N h3, h5]
    have lt := trim_len (o)
    have tk := trim_take (o)
    refine call_cut (o) 21 (1) rfl (by omega) h2.symm Hv ?_
    rw [et] at lt tk ⊢
    refine T (r_retG [(21, 1)] (by simp) ?_ ?_)
    · trivial
    rw [Try.results81]
    refine RG ?_
    exact ⟨Nat.le_refl _, Wk.refl _, by rw [tk]⟩
theorem g_word (a : List Int) (w : Int) (ha : Wf a) (la : a.length ≤ 35184372088000) (hw : 0 < w) (hw' : w < 4294967296) : SpecG Try.prog 110 [U a, u32 w] [] (.tup [.hs 1000000 1 0 (N (val a / w)).length 1, u32 (val a % w)]) [(1, (N (val a / w)).map u32)] := by
  refine specG_of_awp mixed Try.func110 rfl Try.call110 (by kernel_rfl) (by simp) rfl rfl (by simp) ?_
  refine T ?_
  refine w_loop (α := Nat × Int × List Int) (fun p => [(.t 0, U a), (.t 1, u32 w), (.t 6, .hs 12 1 0 a.length 1), (.t 7, .sc (.int .u64 p.2.1)), (.t 8, .sc (.int .i64 ((p.1 : Int) - 1))), (.h 12, .blk 1 2 (p.2.2.map u32))])
    (fun p => p.1 ≤ a.length ∧ p.2.2.length = a.length ∧ Wf p.2.2 ∧ 0 ≤ p.2.1 ∧ p.2.1 < w ∧ val (p.2.2.drop p.1) * w + p.2.1 = val (a.drop p.1))
    (fun p => p.1) (a.length, 0, List.replicate a.length 0) ⟨Nat.le_refl _, by simp, Wf.zeros _, Int.le_refl 0, hw, by simp [val]⟩ ?_ ?_
  · exact Hv
  rintro ⟨n, r, o⟩ s ⟨h1, h2, h3, h4, h5, h6⟩ J hJ
  simp only at h1 h2 h3 h4 h5 h6
  have H6 := Hd.mk h6
  clear h6
  rcases n with _ | n
  · have h6 := H6.out
    rw [List.drop_zero, List.drop_zero] at h6
    refine T ?_
    have e1 : val a / w = val o := by rw [← h6, Int.add_comm, Int.add_mul_ediv_right _ _ (by omega), Int.ediv_eq_zero_of_lt h4 h5, Int.zero_add]
    have e2 : val a % w = r := by rw [← h6, Int.add_comm, Int.add_mul_emod_self_right, Int.emod_eq_of_lt h4 h5]
    have et : trim o = N (val a / w) := by rw [trim_N h3, e1]
    have lt := trim_len (o)
    have tk := trim_take (o)
    refine call_cut (o) 12 (1) rfl (by omega) h2.symm Hv ?_
    rw [et] at lt tk ⊢
    refine T (r_retG [(12, 1)] (by simp) ?_ ?_)
    · trivial
    rw [Try.results110]
    refine RG ?_
    rw [e2]
    exact ⟨Nat.le_refl _, Wk.refl _, by rw [tk]⟩
  · have hx := ha.at n
    obtain ⟨q, r2, eq, er, hq, hr2, hqr⟩ := divstep hw ⟨h4, h5⟩ hx
    have eq' := eq.out
    have er' := er.out
    subst eq' er'
    clear eq er
    have hqr' := hqr.out
    clear hqr
    have QR := Hd.mk hqr'
    clear hqr'
    refine T ?_
    refine hJ _ (n, (r * 4294967296 + a.getD n 0) % w, o.set n ((r * 4294967296 + a.getD n 0) / w)) (Nat.lt_succ_self n) ⟨by show n ≤ _; omega, by simp [h2], h3.set _ hq.1 hq.2, hr2.1, hr2.2, ?_⟩ ?_
    · show val ((o.set n _).drop n) * w + _ = val (a.drop n)
      rw [val_drop_at (l := o.set n _) (by simp; omega), val_drop_at (l := a) (by omega), getD_set_self (by omega), drop_set_lt (by omega)]
      have h1 := H6.out
      have h2 := QR.out
      generalize val (o.drop (n + 1)) = Q at *
      generalize val (a.drop (n + 1)) = A at *
      generalize a.getD n 0 = x at *
      generalize (r * 4294967296 + x) / w = q at *
      generalize (r * 4294967296 + x) % w = r2 at *
      grind
    · exact Hv
theorem g_Shr (a : List Int) (n : Nat) (ha : Wf a) (la : a.length ≤ 35184372088000) (hn : n ≤ 1000000000) (hk : n / 32 < (trim a).length) : SpecG Try.prog 114 [U a, .sc (.int .i64 n)] [] (.hs 1000000 1 0 (N (val a / 2 ^ n)).length 1) [(1, (N (val a / 2 ^ n)).map u32)] := by
  refine specG_of_awp mixed Try.func114 rfl Try.call114 (by kernel_rfl) (by simp) rfl rfl (by simp) ?_
  refine T (call_by (s_cut a (by omega)) ?_)
  have la' := trim_len a
  have ix := Is.of ha rfl
  generalize trim a = x at *
  have hx := ix.wf
  have hs : n % 32 < 32 := Nat.mod_lt _ (by decide)
  have hp := pow_bd (s := n % 32) (by omega)
  refine T ?_
  refine w_loop (α := Nat × List Int) (fun p => [(.t 0, U x), (.t 5, .sc (.int .i64 (n / 32 : Nat))), (.t 6, .sc (.int .u64 (n % 32 : Nat))), (.t 7, .hs 25 1 0 (x.length - n / 32) 1), (.t 27, .sc (.int .i64 (x.length - n / 32 : Nat))), (.t 28, .sc (.int .i64 p.1)), (.h 25, .blk 1 2 (p.2.map u32))])
    (fun p => p.1 ≤ x.length - n / 32 ∧ p.2.length = x.length - n / 32 ∧ Wf p.2 ∧ 2 ^ (n % 32) * val (p.2.take p.1) + x.getD (n / 32) 0 % 2 ^ (n % 32) = val ((x.drop (n / 32)).take p.1) + 4294967296 ^ p.1 * (x.getD (n / 32 + p.1) 0 % 2 ^ (n % 32)))
    (fun p => x.length - n / 32 - p.1) (0, List.replicate (x.length - n / 32) 0) ⟨Nat.zero_le _, by simp, Wf.zeros _, by simp [val]⟩ ?_ ?_
  · exact Hv
  rintro ⟨i, o⟩ r ⟨h1, h2, h3, h5⟩ J hJ
  simp only at h1 h2 h3 h5
  have H5 := Hd.mk h5
  clear h5
  by_cases hi : i < x.length - n / 32
  · have hai := hx.at (n / 32 + i)
    have hbi := hx.at (n / 32 + i + 1)
    obtain ⟨z, ez, hz, hyz⟩ := shrstep hs hai hbi
    have fin : 2 ^ (n % 32) * val ((o.set i z).take (i + 1)) + x.getD (n / 32) 0 % 2 ^ (n % 32) = val ((x.drop (n / 32)).take (i + 1)) + 4294967296 ^ (i + 1) * (x.getD (n / 32 + i + 1) 0 % 2 ^ (n % 32)) := by
      rw [val_take_set (by omega), val_take_at (x.drop _), getD_drop, pow_snoc]
      have e := H5.out
      have := hyz.out
      clear ez
      generalize (4294967296 : Int) ^ i = P at *
      generalize (2 : Int) ^ (n % 32) = S at *
      generalize x.getD (n / 32 + i) 0 = X at *
      generalize x.getD (n / 32 + i + 1) 0 = Y at *
      generalize x.getD (n / 32) 0 % S = X0 at *
      have e2 : P * (S * z + X % S) = P * (X + 4294967296 * (Y % S)) := by rw [this]
      grind
    have FIN := Hd.mk fin
    clear fin
    have ez' := ez.out
    clear ez
    by_cases hj : n / 32 + i + 1 < x.length
    · refine T ?_
      refine hJ _ (i + 1, o.set i z) ?_ ⟨hi, by simp [h2], h3.set _ hz.1 hz.2, FIN.out⟩ ?_
      · show x.length - n / 32 - (i + 1) < x.length - n / 32 - i; omega
      · rw [← ez']; exact Hv
    · have hy0 : x.getD (n / 32 + i + 1) 0 = 0 := getD_big (by omega)
      rw [hy0, Int.zero_mul, Int.zero_add] at ez'
      refine T ?_
      refine hJ _ (i + 1, o.set i z) ?_ ⟨hi, by simp [h2], h3.set _ hz.1 hz.2, FIN.out⟩ ?_
      · show x.length - n / 32 - (i + 1) < x.length - n / 32 - i; omega
      · rw [← ez']; exact Hv
  · have hi' : i = x.length - n / 32 := by omega
    subst hi'
    refine T ?_
    have h5 := H5.out
    rw [← h2, List.take_length, h2, List.take_of_length_le (by simp), getD_big (l := x) (n := n / 32 + (x.length - n / 32)) (by omega)] at h5
    have e1 := val_cut x (n / 32) (by omega)
    have l1 := val_lt (hx.take (n / 32))
    rw [List.length_take, Nat.min_eq_left (by omega)] at l1
    have l2 := val_nonneg (hx.take (n / 32))
    have hpk := pow_pos' (n / 32)
    have e2 : val a / 4294967296 ^ (n / 32) = val (x.drop (n / 32)) := by
      rw [← ix.val, e1, Int.add_mul_ediv_left _ _ (by omega), Int.ediv_eq_zero_of_lt l2 l1, Int.zero_add]
    have e3 : val (x.drop (n / 32)) / 2 ^ (n % 32) = val o := by
      have h6 : val (x.drop (n / 32)) = x.getD (n / 32) 0 % 2 ^ (n % 32) + 2 ^ (n % 32) * val o := by rw [Int.zero_emod, Int.mul_zero, Int.add_zero] at h5; omega
      rw [h6, Int.add_mul_ediv_left _ _ (by omega), Int.ediv_eq_zero_of_lt (Int.emod_nonneg _ (by omega)) (Int.emod_lt_of_pos _ (by omega)), Int.zero_add]
    have et : trim o = N (val a / 2 ^ n) := by rw [trim_N h3, pow_parts n, ← Int.ediv_ediv_of_nonneg (by omega), e2, e3]
    have lt := trim_len (o)
    have tk := trim_take (o)
    refine call_cut (o) 25 (1) rfl (by omega) h2.symm Hv ?_
    rw [et] at lt tk ⊢
    refine T (r_retG [(25, 1)] (by simp) ?_ ?_)
    · trivial
    rw [Try.results114]
    refine RG ?_
    exact ⟨Nat.le_refl _, Wk.refl _, by rw [tk]⟩
end Go.Ab
end
section
namespace Go.Ab
open Go Go.Proofs Go.Proofs.Ytgffficaoioljaa.Pl
set_option maxRecDepth 100000
set_option maxHeartbeats 8000000
theorem call_fit0 {P : Program} {B : Nat} {ops : Array Oper} {K : S → Prop} {rest : List Oper} {s : S} {d : Option Tmp} {x : Option (List AV × List Nat)} (o : List Int) (k : Nat) {n : Nat} (hP : P = Try.prog) (hl : o.length ≤ 16) (hn : n = o.length) (h0 : hall s k = .blk 1 2 (o.map u32))
    (hK : AOps0 P B ops K rest (put (upd s (.h k) (.blk 1 2 (o.map u32))) d (.tup [.hs k 1 0 o.length 1, .sc (.int .i64 0)]))) : ACall P B ops K rest s d 80 [.hs k 1 0 n 1] x := by
  subst hP
  have e1 : frzHL (hall s) k [.hs k 1 0 n 1] = some ([.hs k 1 0 n 1], []) := by simp [frzHL, frzH]
  have e2 : AV.keepL k 1 [.hs k 1 0 n 1] = true := by simp [AV.keepL, AV.keep]
  refine call_h (as' := [.hs 1000000 1 0 o.length 1]) h0 (all_u32f _) e1 rfl e2 (by rw [hn]; rfl) (h_fit0 o hl) ?_
  exact hK
theorem call_fit1 {P : Program} {B : Nat} {ops : Array Oper} {K : S → Prop} {rest : List Oper} {s : S} {d : Option Tmp} {x : Option (List AV × List Nat)} (o : List Int) (k : Nat) {n : Nat} (hP : P = Try.prog) (hl : 16 < o.length) (hl' : o.length ≤ 140000000000000) (hn : n = o.length) (h0 : hall s k = .blk 1 2 (o.map u32))
    (hK : AOps0 P B ops K rest (put (upd s (.h k) (.blk 1 2 (o.map u32))) d (.tup [.sc (.slice none 0 0), .sc (.int .i64 4)]))) : ACall P B ops K rest s d 80 [.hs k 1 0 n 1] x := by
  subst hP
  have e1 : frzHL (hall s) k [.hs k 1 0 n 1] = some ([.hs k 1 0 n 1], []) := by simp [frzHL, frzH]
  have e2 : AV.keepL k 1 [.hs k 1 0 n 1] = true := by simp [AV.keepL, AV.keep]
  refine call_h (as' := [.hs 1000000 1 0 o.length 1]) h0 (all_u32f _) e1 rfl e2 (by rw [hn]; rfl) (h_fit1 o hl hl') ?_
  exact hK
theorem sumLen {a b : List Int} (ha : Wf a) (hb : Wf b) {n : Nat} (la : a.length ≤ n) (lb : b.length ≤ n) : (N (val a + val b)).length ≤ n + 1 := by
  have h1 := val_lt ha
  have h2 := val_lt hb
  have h3 := pow_le la
  have h4 := pow_le lb
  refine (N_is (Int.add_nonneg (val_nonneg ha) (val_nonneg hb))).len ?_
  rw [Int.pow_succ]
  have h5 := pow_pos' n
  generalize (4294967296 : Int) ^ n = K at *
  omega
theorem mulLen {a b : List Int} (ha : Wf a) (hb : Wf b) : (N (val a * val b)).length ≤ a.length + b.length := by
  refine (N_is (Int.mul_nonneg (val_nonneg ha) (val_nonneg hb))).len ?_
  rw [Int.pow_add]
  have h1 := val_lt ha
  have h2 := val_lt hb
  have h3 := val_nonneg ha
  have h4 := val_nonneg hb
  have h5 : val a * val b ≤ val a * 4294967296 ^ b.length := Int.mul_le_mul_of_nonneg_left (Int.le_of_lt h2) h3
  have h6 : val a * 4294967296 ^ b.length < 4294967296 ^ a.length * 4294967296 ^ b.length := Int.mul_lt_mul_of_pos_right h1 (pow_pos' _)
  omega
def Lim (F : FuncId) (xs : List AV) (v : List Int) : Prop := ∃ f : Bool, (f = false → (fitV v).1 = []) ∧ SpecG Try.prog F xs [] (.tup [oX 1000000 f (fitV v).1, .sc (.int .i64 (fitV v).2)]) (oO f (fitV v).1)
theorem fitV_le {v : List Int} (h : v.length ≤ 16) : fitV v = (v, 0) := if_pos h
theorem fitV_gt {v : List Int} (h : 16 < v.length) : fitV v = ([], 4) := if_neg (by omega)
theorem Lim.row {F : FuncId} {xs : List AV} {v : List Int} (h1 : v.length ≤ 16) (h : SpecG Try.prog F xs [] (.tup [.hs 1000000 1 0 v.length 1, .sc (.int .i64 0)]) [(1, v.map u32)]) : Lim F xs v := by
  refine ⟨true, nofun, ?_⟩
  rw [fitV_le h1]
  exact h
theorem Lim.big {F : FuncId} {xs : List AV} {v : List Int} (h1 : 16 < v.length) (hp : AV.pureL xs = true) (h : Spec Try.prog F xs (.tup [.sc (.slice none 0 0), .sc (.int .i64 4)])) : Lim F xs v := by
  refine ⟨false, fun _ => by rw [fitV_gt h1], ?_⟩
  rw [fitV_gt h1]
  exact SpecG.of_spec h hp rfl
theorem Lim.nil {F : FuncId} {xs : List AV} {v : List Int} (h1 : v = []) (hp : AV.pureL xs = true) (h : Spec Try.prog F xs (.tup [.sc (.slice none 0 0), .sc (.int .i64 0)])) : Lim F xs v := by
  subst h1
  exact ⟨false, fun _ => rfl, SpecG.of_spec h hp rfl⟩
theorem l_Norm (a : List Int) (la : a.length ≤ 35184372088000) : Lim 38 [U a] (trim a) := by
  have lt := trim_len a
  by_cases h0 : trim a = []
  · refine Lim.nil h0 rfl ?_
    refine spec_of_awp mixed Try.func38 rfl Try.call38 (by kernel_rfl) (by simp) rfl ?_
    refine T (call_by (n_Trim a (by omega) h0) ?_)
    refine T (call_by n_fit ?_)
    refine T (r_ret ?_)
    rw [Try.results38]
    refine R ?_
    exact Wk.refl _
  by_cases h1 : (trim a).length ≤ 16
  · refine Lim.row h1 ?_
    refine specG_of_awp mixed Try.func38 rfl Try.call38 (by kernel_rfl) (by simp) rfl rfl (by simp) ?_
    refine T ?_
    refine call_g [] false (g_Trim a (by omega) h0) trivial rfl (by simp) (by simp [pOf]) rfl rfl rfl nofun ?_
    refine T ?_
    refine call_fit0 (trim a) 5 rfl h1 rfl Hv ?_
    refine T (r_retG [(5, 1)] (by simp) ?_ ?_)
    · trivial
    rw [Try.results38]
    refine RG ?_
    exact ⟨Nat.le_refl _, Wk.refl _⟩
  · refine Lim.big (by omega) rfl ?_
    refine spec_of_awp mixed Try.func38 rfl Try.call38 (by kernel_rfl) (by simp) rfl ?_
    refine T ?_
    refine call_g [] false (g_Trim a (by omega) h0) trivial rfl (by simp) (by simp [pOf]) rfl rfl rfl nofun ?_
    refine T ?_
    refine call_fit1 (trim a) 5 rfl (by omega) (by omega) rfl Hv ?_
    refine T (r_ret ?_)
    rw [Try.results38]
    refine R ?_
    exact Wk.refl _
theorem l_Add (a b : List Int) (ha : Wf a) (hb : Wf b) (la : a.length ≤ 35184372087900) (lb : b.length ≤ 35184372087900) : Lim 42 [U a, U b] (N (val a + val b)) := by
  have lt : (N (val a + val b)).length ≤ 140000000000000 := by
    have := sumLen ha hb (n := 35184372087900) la lb
    omega
  by_cases h1 : (N (val a + val b)).length ≤ 16
  · refine Lim.row h1 ?_
    refine specG_of_awp mixed Try.func42 rfl Try.call42 (by kernel_rfl) (by simp) rfl rfl (by simp) ?_
    refine T ?_
    refine call_g [] false (g_Add a b ha hb (by omega) (by omega)) trivial rfl (by simp) (by simp [pOf]) rfl rfl rfl nofun ?_
    refine T ?_
    refine call_fit0 (N (val a + val b)) 8 rfl h1 rfl Hv ?_
    refine T (r_retG [(8, 1)] (by simp) ?_ ?_)
    · trivial
    rw [Try.results42]
    refine RG ?_
    exact ⟨Nat.le_refl _, Wk.refl _⟩
  · refine Lim.big (by omega) rfl ?_
    refine spec_of_awp mixed Try.func42 rfl Try.call42 (by kernel_rfl) (by simp) rfl ?_
    refine T ?_
    refine call_g [] false (g_Add a b ha hb (by omega) (by omega)) trivial rfl (by simp) (by simp [pOf]) rfl rfl rfl nofun ?_
    refine T ?_
    refine call_fit1 (N (val a + val b)) 8 rfl (by omega) (by omega) rfl Hv ?_
    refine T (r_ret ?_)
    rw [Try.results42]
    refine R ?_
    exact Wk.refl _
theorem l_Mul (a b : List Int) (ha : Wf a) (hb : Wf b) (la : a.length ≤ 35184372087900) (lb : b.length ≤ 35184372087900) : Lim 21 [U a, U b] (N (val a * val b)) := by
  have lt : (N (val a * val b)).length ≤ 140000000000000 := by
    have := mulLen ha hb
    omega
  by_cases h1 : (N (val a * val b)).length ≤ 16
  · refine Lim.row h1 ?_
    refine specG_of_awp mixed Try.func21 rfl Try.call21 (by kernel_rfl) (by simp) rfl rfl (by simp) ?_
    refine T ?_
    refine call_g [] false (g_Mul a b ha hb (by omega) (by omega)) trivial rfl (by simp) (by simp [pOf]) rfl rfl rfl nofun ?_
    refine T ?_
    refine call_fit0 (N (val a * val b)) 8 rfl h1 rfl Hv ?_
    refine T (r_retG [(8, 1)] (by simp) ?_ ?_)
    · trivial
    rw [Try.results21]
    refine RG ?_
    exact ⟨Nat.le_refl _, Wk.refl _⟩
  · refine Lim.big (by omega) rfl ?_
    refine spec_of_awp mixed Try.func21 rfl Try.call21 (by kernel_rfl) (by simp) rfl ?_
    refine T ?_
    refine call_g [] false (g_Mul a b ha hb (by omega) (by omega)) trivial rfl (by simp) (by simp [pOf]) rfl rfl rfl nofun ?_
    refine T ?_
    refine call_fit1 (N (val a * val b)) 8 rfl (by omega) (by omega) rfl Hv ?_
    refine T (r_ret ?_)
    rw [Try.results21]
    refine R ?_
    exact Wk.refl _
end Go.Ab
end
