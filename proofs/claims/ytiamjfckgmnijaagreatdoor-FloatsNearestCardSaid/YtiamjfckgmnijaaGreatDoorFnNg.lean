import Derived.Test.YtiamjfckgmnijaaGreatDoorFnNb
import Derived.Test.YtiamjfckgmnijaaGreatDoorFnN
import Derived.Test.YtiamjfckgmnijaaGreatDoorFnOa
import Derived.Test.YtiamjfckgmnijaaGreatDoorFnU
set_option linter.all false
section
namespace Go.Ab
open Go Go.Proofs Go.Proofs.YtiamjfckgmnijaaGreatDoor.Pl
set_option maxRecDepth 100000
set_option maxHeartbeats 4000000
def dgc (n : Nat) : UInt8 := UInt8.ofNat (48 + n % 10)
def dgs (n : Nat) : List UInt8 := if n < 10 then [dgc n] else dgs (n / 10) ++ [dgc n]
decreasing_by omega
def rdv (l : List UInt8) : Nat := l.foldl (fun a c => a * 10 + (c.toNat - 48)) 0
theorem dgc_nat (n : Nat) : (dgc n).toNat = 48 + n % 10 := by
  unfold dgc
  rw [UInt8.toNat_ofNat']
  omega
theorem rdv_snoc (l : List UInt8) (c : UInt8) : rdv (l ++ [c]) = rdv l * 10 + (c.toNat - 48) := by
  unfold rdv
  rw [List.foldl_append]
  rfl
theorem rdv_dgs : ∀ n, rdv (dgs n) = n := by
  intro n
  induction n using Nat.strongRecOn with
  | _ n ih =>
    rw [dgs]
    by_cases h : n < 10
    · rw [if_pos h]
      show 0 * 10 + ((dgc n).toNat - 48) = n
      rw [dgc_nat]
      omega
    · rw [if_neg h, rdv_snoc, ih (n / 10) (by omega), dgc_nat]
      omega
theorem dgs_dig : ∀ n, ∀ c ∈ dgs n, 48 ≤ c.toNat ∧ c.toNat ≤ 57 := by
  intro n
  induction n using Nat.strongRecOn with
  | _ n ih =>
    rw [dgs]
    by_cases h : n < 10
    · rw [if_pos h]
      intro c hc
      rw [List.mem_singleton] at hc
      rw [hc, dgc_nat]
      omega
    · rw [if_neg h]
      intro c hc
      rcases List.mem_append.1 hc with hc | hc
      · exact ih (n / 10) (by omega) c hc
      · rw [List.mem_singleton] at hc
        rw [hc, dgc_nat]
        omega
theorem dgs_pos (n : Nat) : 0 < (dgs n).length := by
  rw [dgs]
  split <;> simp
theorem dgs_len : ∀ (k n : Nat), n < 10 ^ (k + 1) → (dgs n).length ≤ k + 1
  | 0, n, h => by
    rw [dgs, if_pos (by simpa using h)]
    exact Nat.le_refl _
  | k + 1, n, h => by
    rw [dgs]
    by_cases h1 : n < 10
    · rw [if_pos h1]; simp
    · rw [if_neg h1, List.length_append]
      have := dgs_len k (n / 10) (by rw [Nat.div_lt_iff_lt_mul (by decide), ← Nat.pow_succ]; exact h)
      simp only [List.length_singleton]
      omega
theorem g1_Trim (l : List Int) (hl : l.length ≤ 35184372088832) (h0 : 0 < (trim l).length) : SpecG Tryz.prog 64 [U l] [] (.hs 1000000 1 0 (trim l).length 1) [(1, (trim l).map u32)] := by
  refine specG_of_awp mixed Tryz.func64 rfl Tryz.call64 (by kernel_rfl) (by simp) rfl rfl (by simp) ?_
  refine TB ?_
  refine w_cut (α := Nat) (fun n => [(.t 0, U l), (.t 3, .sc (.int .i64 n)), (.h 31, .blk 0 0 [])]) (fun n => n ≤ l.length ∧ trim l = l.take n) ?_ ?_
  · intro J hJ
    refine T (w_loop (α := Nat) (fun n => [(.t 0, U l), (.t 3, .sc (.int .i64 n)), (.h 31, .blk 0 0 [])]) (fun n => n ≤ l.length ∧ trim (l.take n) = trim l) id l.length ⟨Nat.le_refl _, by simp⟩ ?_ ?_)
    · exact Hv
    rintro n r ⟨hn, et⟩ J2 hJ2
    rcases n with _ | n
    · refine T ?_
      exact hJ _ 0 ⟨Nat.zero_le _, by rw [← et]; rfl⟩ Hv
    · by_cases h0 : l.getD n 0 = 0
      · refine T ?_
        exact hJ2 _ n (Nat.lt_succ_self _) ⟨by omega, by rw [← et, trim_take_zero hn h0]⟩ Hv
      · refine T ?_
        exact hJ _ (n + 1) ⟨hn, by rw [← et, trim_take_ne hn h0]⟩ Hv
  rintro n r ⟨hn, et⟩
  have hn0 : n ≠ 0 := by
    rintro rfl
    rw [et] at h0
    simp at h0
  refine T ?_
  refine w_loop (α := Nat) (fun i => [(.t 0, U l), (.t 3, .sc (.int .i64 n)), (.t 5, .sc (.int .i64 i)), (.t 4, oV 31 i), (.h 31, oB i (l.take i))]) (fun i => i ≤ n) (fun i => n - i) 0 (Nat.zero_le _) ?_ ?_
  · dsimp only [oV, oB]
    exact Hv
  rintro i r h1 J hJ
  rcases i with _ | i
  · dsimp only [oV, oB]
    refine T ?_
    refine hJ _ 1 (by omega) (by omega) ?_
    have e : l.take 1 = [l.getD 0 0] := take_at (n := 0) (by omega)
    dsimp only [oV, oB]
    rw [e]
    refine H ?_
    exact ⟨rfl, rfl⟩
  · dsimp only [oV, oB]
    by_cases h : i + 1 < n
    · refine T ?_
      refine hJ _ (i + 2) (by omega) (by omega) ?_
      have e : l.take (i + 1 + 1) = l.take (i + 1) ++ [l.getD (i + 1) 0] := take_at (n := i + 1) (by omega)
      dsimp only [oV, oB]
      rw [e]
      exact Hv
    · have e : i + 1 = n := by omega
      subst e
      have lt : (l.take (i + 1)).length = i + 1 := by rw [List.length_take, Nat.min_eq_left hn]
      rw [et, lt]
      refine T (r_retG [(31, i + 1)] (by simp) ?_ ?_)
      · trivial
      rw [Tryz.results64]
      refine RG ?_
      exact ⟨Nat.le_refl _, Wk.refl _⟩
theorem g1_Fit (l : List Int) (h0 : 0 < (trim l).length) (h1 : (trim l).length ≤ 16) (hl : l.length ≤ 35184372088832) : SpecG Tryz.prog 97 [U l] [] (.tup [.hs 1000000 1 0 (trim l).length 1, .sc (.int .i64 0)]) [(1, (trim l).map u32)] := by
  have g := g1_Trim l hl h0
  refine specG_of_awp mixed Tryz.func97 rfl Tryz.call97 (by kernel_rfl) (by simp) rfl rfl (by simp) ?_
  refine T ?_
  refine call_g [] false g trivial rfl (by simp) (by simp [pOf]) rfl rfl rfl nofun ?_
  refine T (r_retG [(6, 1)] (by simp) ?_ ?_)
  · trivial
  rw [Tryz.results97]
  refine RG ?_
  exact ⟨Nat.le_refl _, Wk.refl _⟩
end Go.Ab
end
section
namespace Go.Ab
open Go Go.Proofs Go.Proofs.YtiamjfckgmnijaaGreatDoor.Pl
set_option maxRecDepth 100000
set_option maxHeartbeats 8000000
theorem q1_Fit (l : List Int) (hl : l.length ≤ 35184372088832) (h : (trim l).length ≤ 16) : Spec Tryz.prog 97 [U l] (.tup [U (trim l), .sc (.int .i64 0)]) := by
  refine spec_of_awp mixed Tryz.func97 rfl Tryz.call97 (by kernel_rfl) (by simp) rfl ?_
  refine T (call_by (q_Trim l hl) ?_)
  exact TR rfl
theorem n_add (a b : ByteArray) (h : a.size + b.size ≤ 5000) : sbin .add a b = some (.string (a ++ b)) := by
  unfold sbin
  rw [if_pos (by omega)]
theorem n_sz (l : List UInt8) : (⟨l.toArray⟩ : ByteArray).size = l.length := by simp [ByteArray.size]
theorem n_app (a b : List UInt8) : (⟨a.toArray⟩ : ByteArray) ++ ⟨b.toArray⟩ = ⟨(a ++ b).toArray⟩ := by
  apply ByteArray.ext
  simp [ByteArray.data_append]
theorem n_dig {r : Nat} (h : r < 10) : (⟨#[48, 49, 50, 51, 52, 53, 54, 55, 56, 57]⟩ : ByteArray).extract r (r + 1) = ⟨[dgc r].toArray⟩ := by
  have key : ∀ r : Fin 10, (⟨#[48, 49, 50, 51, 52, 53, 54, 55, 56, 57]⟩ : ByteArray).extract r.1 (r.1 + 1) = ⟨[dgc r.1].toArray⟩ := by decide +kernel
  exact key ⟨r, h⟩
def jm : Nat → Int
  | 0 => -1
  | j + 1 => j
theorem jm_of (n : Nat) : jm n = (n : Int) - 1 := by
  cases n with
  | zero => rfl
  | succ n => show (n : Int) = ((n + 1 : Nat) : Int) - 1; omega
theorem dgs_step (v : Nat) (h : 10 ≤ v) : dgs v = dgs (v / 10) ++ [dgc v] := by rw [dgs, if_neg (by omega)]
theorem dgs_small (v : Nat) (h : v < 10) : dgs v = [dgc v] := by rw [dgs, if_pos h]
theorem drop_get {l : List Int} {j : Nat} (h : j < l.length) : l.drop j = l.getD j 0 :: l.drop (j + 1) := by
  rw [List.drop_eq_getElem_cons h, List.getD_eq_getElem?_getD, List.getElem?_eq_getElem h]
  rfl
theorem take_get {a b : List Int} {j : Nat} (h : a.take (j + 1) = b.take (j + 1)) : a.getD j 0 = b.getD j 0 := by
  have e : ∀ l : List Int, l.getD j 0 = (l.take (j + 1)).getD j 0 := by
    intro l
    simp only [List.getD_eq_getElem?_getD]
    rw [List.getElem?_take_of_lt (Nat.lt_succ_self j)]
  rw [e a, e b, h]
theorem div_step {L cur : List Int} {j : Nat} {rest : Int} (hc : cur.length = L.length) (hj : j < L.length) (ht : cur.take (j + 1) = L.take (j + 1)) (wc : Wf cur) (r0 : 0 ≤ rest) (r9 : rest < 10)
    (hv : val (L.drop (j + 1)) = 10 * val (cur.drop (j + 1)) + rest) : Wf (cur.set j ((rest * 4294967296 + cur.getD j 0) / 10)) ∧ (cur.set j ((rest * 4294967296 + cur.getD j 0) / 10)).length = L.length ∧ (cur.set j ((rest * 4294967296 + cur.getD j 0) / 10)).take j = L.take j ∧
    val (L.drop j) = 10 * val ((cur.set j ((rest * 4294967296 + cur.getD j 0) / 10)).drop j) + (rest * 4294967296 + cur.getD j 0) % 10 := by
  have hg := wc.at j
  have eg := take_get ht
  refine ⟨wc.set _ (by omega) (by omega), by simp [hc], ?_, ?_⟩
  · rw [List.take_set_of_le (Nat.le_refl j)]
    have := congrArg (List.take j) ht
    rw [List.take_take, List.take_take, Nat.min_eq_left (Nat.le_succ j)] at this
    exact this
  · rw [drop_get hj, drop_get (l := cur.set j _) (by simp; omega), List.drop_set_of_lt (show j < j + 1 by omega), ← eg]
    have es : (cur.set j ((rest * 4294967296 + cur.getD j 0) / 10)).getD j 0 = (rest * 4294967296 + cur.getD j 0) / 10 := by
      rw [List.getD_eq_getElem?_getD, List.getElem?_set_self (by omega)]
      rfl
    rw [es]
    simp only [val]
    omega
theorem text_exit {L cur : List Int} {ρ : Nat} (wL : Wf L) (tL : trim L = L) (l0 : 0 < L.length) (wc : Wf cur) (hv : val (L.drop 0) = 10 * val (cur.drop 0) + ρ) (hρ : ρ < 10) :
    (val cur).toNat < (val L).toNat ∧ (val cur = 0 → dgs (val L).toNat = [dgc ρ]) ∧ (val cur ≠ 0 → dgs (val L).toNat = dgs (val cur).toNat ++ [dgc ρ]) := by
  have h0 := val_ne wL tL (by omega)
  have n1 := val_nonneg wL
  have n2 := val_nonneg wc
  rw [List.drop_zero, List.drop_zero] at hv
  have ed : ∀ v : Nat, v % 10 = ρ → dgc v = dgc ρ := by
    intro v h
    unfold dgc
    rw [← h, Nat.mod_mod]
  refine ⟨by omega, fun h => ?_, fun h => ?_⟩
  · rw [dgs_small _ (by omega), ed _ (by omega)]
  · rw [dgs_step _ (by omega), ed _ (by omega), show (val L).toNat / 10 = (val cur).toNat by omega]
def tSt : Nat → Nat → List Int → List UInt8 → List (Loc × AV)
  | 0, g, L, s => [(.t 4, .hs 12 g 0 L.length 1), (.h 12, .blk g 2 (L.map u32)), (.h 54, .blk 0 0 []), (.t 6, .sc (.string ⟨s.toArray⟩))]
  | 1, g, L, s => [(.t 4, .hs 54 g 0 L.length 1), (.h 54, .blk g 2 (L.map u32)), (.t 6, .sc (.string ⟨s.toArray⟩))]
  | _, _, _, s => [(.t 4, U []), (.t 6, .sc (.string ⟨s.toArray⟩))]
def tOk (k : Nat) (L : List Int) : Prop := if k < 2 then 0 < L.length else L = []
theorem q1_Text (l : List Int) (hw : Wf l) (ht : trim l = l) (hl : l.length ≤ 16) (hD : (dgs (val l).toNat).length ≤ 1000) : Spec Tryz.prog 80 [U l] (.tup [.sc (.string ⟨(dgs (val l).toNat).toArray⟩), .sc (.int .i64 0)]) := by
  refine spec_of_awp mixed Tryz.func80 rfl Tryz.call80 (by kernel_rfl) (by simp) rfl ?_
  rcases Nat.eq_zero_or_pos l.length with h0 | h0
  · have el := List.eq_nil_of_length_eq_zero h0
    subst el
    have cF := q1_Fit [] (by simp) (by rw [ht]; simp)
    rw [ht] at cF
    refine T (call_by cF ?_)
    refine T (r_ret ?_)
    rw [Tryz.results80, show dgs (val ([] : List Int)).toNat = [48] by rw [show (val ([] : List Int)).toNat = 0 from rfl, dgs]; rfl]
    refine R ?_
    exact Wk.refl _
  have gF := g1_Fit l (by rw [ht]; exact h0) (by rw [ht]; exact hl) (by omega)
  rw [ht] at gF
  refine T ?_
  refine call_g [] false gF trivial rfl (by simp) (by simp [pOf]) rfl rfl rfl nofun ?_
  refine T (w_loop (α := Nat × Nat × List Int × List UInt8) (fun p => tSt p.1 p.2.1 p.2.2.1 p.2.2.2) (fun p => p.1 ≤ 2 ∧ 1 ≤ p.2.1 ∧ tOk p.1 p.2.2.1 ∧ Wf p.2.2.1 ∧ trim p.2.2.1 = p.2.2.1 ∧ p.2.2.1.length ≤ 16 ∧ dgs (val l).toNat = (if p.1 = 2 then [] else dgs (val p.2.2.1).toNat) ++ p.2.2.2)
    (fun p => (val p.2.2.1).toNat + (if p.1 = 2 then 0 else 1)) (0, 1, l, []) ⟨by simp, by simp, by simp [tOk, h0], hw, ht, hl, by simp⟩ ?_ ?_)
  · dsimp only [tSt]
    exact Hv
  rintro ⟨k, g, L, s⟩ r ⟨k2, g1, ok, wL, tL, lL, eD⟩ J hJ
  simp only at k2 g1 ok wL tL lL eD
  rcases k with _ | _ | _ | k
  · dsimp only [tSt]
    have l0 : 0 < L.length := by simpa [tOk] using ok
    rw [if_neg (by decide)] at eD
    refine T (w_loop (α := Nat × List Int × Nat) (fun q => [(.t 4, .hs 12 g 0 L.length 1), (.h 12, .blk g 2 (q.2.1.map u32)), (.h 54, .blk 0 0 []), (.t 6, .sc (.string ⟨s.toArray⟩)), (.t 7, .sc (.int .u64 q.2.2)), (.t 8, .sc (.int .i64 (jm q.1)))])
      (fun q => q.1 ≤ L.length ∧ q.2.1.length = L.length ∧ Wf q.2.1 ∧ q.2.1.take q.1 = L.take q.1 ∧ q.2.2 < 10 ∧ val (L.drop q.1) = 10 * val (q.2.1.drop q.1) + q.2.2) (fun q => q.1) (L.length, L, 0) ⟨Nat.le_refl _, rfl, wL, rfl, by show 0 < 10; decide, by simp [val]⟩ ?_ ?_)
    · dsimp only
      rw [jm_of]
      exact Hv
    rintro ⟨j, cur, ρ⟩ r2 ⟨i1, i2, i3, i4, i5, i6⟩ J2 hJ2
    simp only at i1 i2 i3 i4 i5 i6
    rcases j with _ | j
    · dsimp only [jm]
      obtain ⟨t0, t1, t2⟩ := text_exit wL tL l0 i3 i6 i5
      refine T ?_
      rw [if_pos ⟨Nat.le_succ _, by show ρ + 1 ≤ 10; omega⟩]
      refine T ?_
      have sl : s.length ≤ 1000 := by rw [eD, List.length_append] at hD; omega
      rw [n_dig i5, n_add _ _ (by rw [n_sz, n_sz]; show 1 + s.length ≤ 5000; omega), Option.map_some, n_app]
      by_cases hz : val cur = 0
      · have cT := q_Trim cur (by omega)
        rw [show trim cur = [] by rw [trim_N i3, hz, N_zero]] at cT
        rw [← i2]
        refine T (call_by cT ?_)
        refine T ?_
        refine hJ _ (2, g, [], dgc ρ :: s) ?_ ⟨Nat.le_refl _, g1, rfl, Wf.nil, rfl, by simp, ?_⟩ ?_
        · show (val ([] : List Int)).toNat + 0 < (val L).toNat + 1
          exact Nat.succ_pos _
        · show dgs (val l).toNat = [] ++ (dgc ρ :: s)
          rw [eD, t1 hz]
          rfl
        · dsimp only [tSt]
          exact Hv
      · have tp : 0 < (trim cur).length := by
          rw [trim_N i3]
          rcases Nat.eq_zero_or_pos (N (val cur)).length with h | h
          · have := N_val (val_nonneg i3)
            rw [List.eq_nil_of_length_eq_zero h] at this
            exact absurd this.symm hz
          · exact h
        have gT := g1_Trim cur (by omega) tp
        have tv : val (trim cur) = val cur := by rw [trim_N i3, N_val (val_nonneg i3)]
        have tw : Wf (trim cur) := by rw [trim_N i3]; exact N_wf _
        have tt : trim (trim cur) = trim cur := by rw [trim_N i3]; exact (N_is (val_nonneg i3)).nm
        have tl := trim_len cur
        refine T ?_
        refine call_g [] false gT trivial (frzGL_row (g := g) (st := 2) cur [] (by rw [List.append_nil]; exact Hv) (by decide) i2.symm rfl) (by simp) (by simp [pOf]) rfl rfl rfl nofun ?_
        refine T ?_
        refine hJ _ (1, 1, trim cur, dgc ρ :: s) ?_ ⟨by show 1 ≤ 2; decide, by show 1 ≤ 1; omega, tp, tw, tt, by show (trim cur).length ≤ 16; omega, ?_⟩ ?_
        · show (val (trim cur)).toNat + 1 < (val L).toNat + 1
          rw [tv]
          omega
        · show dgs (val l).toNat = dgs (val (trim cur)).toNat ++ (dgc ρ :: s)
          rw [tv, eD, t2 hz, List.append_assoc]
          rfl
        · dsimp only [tSt]
          exact Hv
    · dsimp only [jm]
      obtain ⟨w1, w2, w3, w4⟩ := div_step i2 (by omega) i4 i3 (show (0 : Int) ≤ ρ by omega) (by omega) i6
      have hg := i3.at j
      refine T ?_
      refine hJ2 _ (j, cur.set j (((ρ : Int) * 4294967296 + cur.getD j 0) / 10), (((ρ : Int) * 4294967296 + cur.getD j 0) % 10).toNat) (Nat.lt_succ_self j) ⟨by show j ≤ _; omega, w2, w1, w3, by show Int.toNat _ < 10; omega, ?_⟩ ?_
      · show val (L.drop j) = 10 * val ((cur.set j (((ρ : Int) * 4294967296 + cur.getD j 0) / 10)).drop j) + ((((ρ : Int) * 4294967296 + cur.getD j 0) % 10).toNat : Nat)
        rw [Int.toNat_of_nonneg (by omega)]
        exact w4
      · dsimp only
        rw [Int.toNat_of_nonneg (by omega), jm_of]
        exact Hv
  · dsimp only [tSt]
    have l0 : 0 < L.length := by simpa [tOk] using ok
    rw [if_neg (by decide)] at eD
    refine T (w_loop (α := Nat × List Int × Nat) (fun q => [(.t 4, .hs 54 g 0 L.length 1), (.h 54, .blk g 2 (q.2.1.map u32)), (.t 6, .sc (.string ⟨s.toArray⟩)), (.t 7, .sc (.int .u64 q.2.2)), (.t 8, .sc (.int .i64 (jm q.1)))])
      (fun q => q.1 ≤ L.length ∧ q.2.1.length = L.length ∧ Wf q.2.1 ∧ q.2.1.take q.1 = L.take q.1 ∧ q.2.2 < 10 ∧ val (L.drop q.1) = 10 * val (q.2.1.drop q.1) + q.2.2) (fun q => q.1) (L.length, L, 0) ⟨Nat.le_refl _, rfl, wL, rfl, by show 0 < 10; decide, by simp [val]⟩ ?_ ?_)
    · dsimp only
      rw [jm_of]
      exact Hv
    rintro ⟨j, cur, ρ⟩ r2 ⟨i1, i2, i3, i4, i5, i6⟩ J2 hJ2
    simp only at i1 i2 i3 i4 i5 i6
    rcases j with _ | j
    · dsimp only [jm]
      obtain ⟨t0, t1, t2⟩ := text_exit wL tL l0 i3 i6 i5
      refine T ?_
      rw [if_pos ⟨Nat.le_succ _, by show ρ + 1 ≤ 10; omega⟩]
      refine T ?_
      have sl : s.length ≤ 1000 := by rw [eD, List.length_append] at hD; omega
      rw [n_dig i5, n_add _ _ (by rw [n_sz, n_sz]; show 1 + s.length ≤ 5000; omega), Option.map_some, n_app]
      by_cases hz : val cur = 0
      · have cT := q_Trim cur (by omega)
        rw [show trim cur = [] by rw [trim_N i3, hz, N_zero]] at cT
        rw [← i2]
        refine T (call_by cT ?_)
        refine T ?_
        refine hJ _ (2, g, [], dgc ρ :: s) ?_ ⟨Nat.le_refl _, g1, rfl, Wf.nil, rfl, by simp, ?_⟩ ?_
        · show (val ([] : List Int)).toNat + 0 < (val L).toNat + 1
          exact Nat.succ_pos _
        · show dgs (val l).toNat = [] ++ (dgc ρ :: s)
          rw [eD, t1 hz]
          rfl
        · dsimp only [tSt]
          exact Hv
      · have tp : 0 < (trim cur).length := by
          rw [trim_N i3]
          rcases Nat.eq_zero_or_pos (N (val cur)).length with h | h
          · have := N_val (val_nonneg i3)
            rw [List.eq_nil_of_length_eq_zero h] at this
            exact absurd this.symm hz
          · exact h
        have gT := g1_Trim cur (by omega) tp
        have tv : val (trim cur) = val cur := by rw [trim_N i3, N_val (val_nonneg i3)]
        have tw : Wf (trim cur) := by rw [trim_N i3]; exact N_wf _
        have tt : trim (trim cur) = trim cur := by rw [trim_N i3]; exact (N_is (val_nonneg i3)).nm
        have tl := trim_len cur
        refine T ?_
        refine call_g [] false gT trivial (frzGL_row (g := g) (st := 2) cur [] (by rw [List.append_nil]; exact Hv) (by decide) i2.symm rfl) (by simp) (by simp [pOf]) rfl rfl rfl nofun ?_
        refine T ?_
        refine hJ _ (1, g + 1, trim cur, dgc ρ :: s) ?_ ⟨by show 1 ≤ 2; decide, by show 1 ≤ g + 1; omega, tp, tw, tt, by show (trim cur).length ≤ 16; omega, ?_⟩ ?_
        · show (val (trim cur)).toNat + 1 < (val L).toNat + 1
          rw [tv]
          omega
        · show dgs (val l).toNat = dgs (val (trim cur)).toNat ++ (dgc ρ :: s)
          rw [tv, eD, t2 hz, List.append_assoc]
          rfl
        · dsimp only [tSt]
          exact Hv
    · dsimp only [jm]
      obtain ⟨w1, w2, w3, w4⟩ := div_step i2 (by omega) i4 i3 (show (0 : Int) ≤ ρ by omega) (by omega) i6
      have hg := i3.at j
      refine T ?_
      refine hJ2 _ (j, cur.set j (((ρ : Int) * 4294967296 + cur.getD j 0) / 10), (((ρ : Int) * 4294967296 + cur.getD j 0) % 10).toNat) (Nat.lt_succ_self j) ⟨by show j ≤ _; omega, w2, w1, w3, by show Int.toNat _ < 10; omega, ?_⟩ ?_
      · show val (L.drop j) = 10 * val ((cur.set j (((ρ : Int) * 4294967296 + cur.getD j 0) / 10)).drop j) + ((((ρ : Int) * 4294967296 + cur.getD j 0) % 10).toNat : Nat)
        rw [Int.toNat_of_nonneg (by omega)]
        exact w4
      · dsimp only
        rw [Int.toNat_of_nonneg (by omega), jm_of]
        exact Hv
  · dsimp only [tSt]
    simp [tOk] at ok
    rw [if_pos rfl, List.nil_append] at eD
    rw [eD]
    refine T (r_ret ?_)
    rw [Tryz.results80]
    refine R ?_
    exact Wk.refl _
  · omega
end Go.Ab
end
section
namespace Go.Ab
open Go Go.Proofs Go.Proofs.YtiamjfckgmnijaaGreatDoor.Pl
set_option maxRecDepth 100000
set_option exponentiation.threshold 5000
set_option maxHeartbeats 8000000
def tx2 (n d : List Int) : List UInt8 := if d = [1] then dgs (val n).toNat else dgs (val n).toNat ++ 47 :: dgs (val d).toNat
theorem dgs_16 {l : List Int} (hw : Wf l) (h : l.length ≤ 16) : (dgs (val l).toNat).length ≤ 155 := by
  refine dgs_len 154 _ ?_
  have h1 := val_lt hw
  have h2 : (4294967296 : Int) ^ l.length ≤ 4294967296 ^ 16 := by
    have : ((4294967296 ^ l.length : Nat) : Int) ≤ ((4294967296 ^ 16 : Nat) : Int) := Int.ofNat_le.2 (Nat.pow_le_pow_right (by decide) h)
    rw [Int.natCast_pow, Int.natCast_pow] at this
    exact this
  have h3 : (4294967296 : Int) ^ 16 ≤ ((10 ^ (154 + 1) : Nat) : Int) := by decide +kernel
  have h0 := val_nonneg hw
  omega
theorem tx2_len {n d : List Int} (hn : Wf n) (hd : Wf d) (ln : n.length ≤ 16) (ld : d.length ≤ 16) : (tx2 n d).length ≤ 311 := by
  have h1 := dgs_16 hn ln
  have h2 := dgs_16 hd ld
  unfold tx2
  split
  · omega
  · simp only [List.length_append, List.length_cons]
    omega
theorem q2_Text (n d : List Int) (hn : Wf n) (hd : Wf d) (hf : formB false n d = true) : Spec Tryz.prog 42 [RA false n d] (.tup [.sc (.string ⟨(tx2 n d).toArray⟩), .sc (.int .i64 0)]) := by
  have hF := of_decide_eq_true hf
  obtain ⟨f1, f2, f3, _, _⟩ := hF
  obtain ⟨ln, tn⟩ := of_decide_eq_true f1
  obtain ⟨ld, td⟩ := of_decide_eq_true f2
  have fQ := q2_Form false n d hn hd (by omega) (by omega)
  rw [hf] at fQ
  have zn := dgs_16 hn ln
  have zd := dgs_16 hd ld
  have cN := q1_Text n hn tn ln (by omega)
  have cD := q1_Text d hd td ld (by omega)
  have cS := q_Same1 d [1] (by omega) (by simp)
  unfold tx2
  refine spec_of_awp mixed Tryz.func42 rfl Tryz.call42 (by kernel_rfl) (by simp) rfl ?_
  generalize dgs (val n).toNat = a at *
  generalize dgs (val d).toNat = b at *
  by_cases h1 : d = [1]
  · rw [if_pos h1]
    rw [decide_eq_true h1] at cS
    refine T (call_by fQ ?_)
    refine T (call_by cN ?_)
    refine T (call_by cS ?_)
    refine T (r_ret ?_)
    rw [Tryz.results42]
    refine R ?_
    exact Wk.refl _
  · rw [if_neg h1]
    rw [decide_eq_false h1] at cS
    refine T (call_by fQ ?_)
    refine T (call_by cN ?_)
    refine T (call_by cS ?_)
    refine T (call_by cD ?_)
    refine T ?_
    rw [n_add _ _ (by rw [n_sz]; show a.length + 1 ≤ 5000; omega), Option.map_some]
    refine T ?_
    rw [show (⟨#[47]⟩ : ByteArray) = ⟨[47].toArray⟩ from rfl, n_app, n_add _ _ (by rw [n_sz, n_sz, List.length_append]; show a.length + 1 + b.length ≤ 5000; omega), Option.map_some, n_app, List.append_assoc]
    refine T (r_ret ?_)
    rw [Tryz.results42]
    refine R ?_
    exact Wk.refl _
end Go.Ab
end
