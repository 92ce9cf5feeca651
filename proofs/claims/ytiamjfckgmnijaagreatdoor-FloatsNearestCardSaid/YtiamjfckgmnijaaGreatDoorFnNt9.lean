import Derived.Test.YtiamjfckgmnijaaGreatDoorFnNi
import Derived.Test.YtiamjfckgmnijaaGreatDoorFnU
import Derived.Test.YtiamjfckgmnijaaGreatDoorFnNb
set_option linter.all false
section
namespace Go.Ab
open Go Go.Proofs Go.Proofs.YtiamjfckgmnijaaGreatDoor.Pl
set_option maxRecDepth 100000
set_option exponentiation.threshold 5000
set_option maxHeartbeats 8000000
theorem n_eql (a b : ByteArray) : sbin .eql a b = some (.bool (a.toList == b.toList)) := rfl
theorem n_neq (a b : ByteArray) : sbin .neq a b = some (.bool (!(a.toList == b.toList))) := rfl
theorem far_less {K kx ky s sx sy d dx dy nO dO nF dF Dx Dy : Int} (pK : 0 < K) (pd : 0 < d) (px : 0 < dx) (py : 0 < dy) (pO : 0 < dO) (pF : 0 < dF) (h1 : sx * K = kx * dx) (h2 : sy * K = ky * dy)
    (hx : Dx = ((sx * d - s * dx).natAbs : Nat)) (hy : Dy = ((sy * d - s * dy).natAbs : Nat)) (hO : nO * (dx * d) = Dx * dO) (hF : nF * (dy * d) = Dy * dF) (hb : (kx * d - s * K).natAbs ≤ (ky * d - s * K).natAbs) : ¬ nF * dO < nO * dF := by
  intro h
  have e : ∀ {sx kx dx Dx : Int}, 0 < dx → sx * K = kx * dx → Dx = ((sx * d - s * dx).natAbs : Nat) → Dx * K = dx * ((kx * d - s * K).natAbs : Nat) := by
    intro sx kx dx Dx p h hD
    have e1 : (sx * d - s * dx) * K = dx * (kx * d - s * K) := by
      rw [Int.sub_mul, Int.mul_sub, show sx * d * K = sx * K * d by ac_rfl, h, show kx * dx * d = dx * (kx * d) by ac_rfl, show s * dx * K = dx * (s * K) by ac_rfl]
    have e2 := congrArg Int.natAbs e1
    rw [Int.natAbs_mul, Int.natAbs_mul] at e2
    have e3 : (((sx * d - s * dx).natAbs * K.natAbs : Nat) : Int) = ((dx.natAbs * (kx * d - s * K).natAbs : Nat) : Int) := by rw [e2]
    rw [Int.natCast_mul, Int.natCast_mul, ← hD, Int.natAbs_of_nonneg (by omega), Int.natAbs_of_nonneg (by omega)] at e3
    exact e3
  have ex := e px h1 hx
  have ey := e py h2 hy
  clear e hx hy h1 h2
  have hb : ((kx * d - s * K).natAbs : Int) ≤ ((ky * d - s * K).natAbs : Int) := Int.ofNat_le.2 hb
  generalize ((kx * d - s * K).natAbs : Int) = a at *
  generalize ((ky * d - s * K).natAbs : Int) = c at *
  have pW : 0 < dx * d * (dy * d) * K := Int.mul_pos (Int.mul_pos (Int.mul_pos px pd) (Int.mul_pos py pd)) pK
  have h' := Int.mul_lt_mul_of_pos_right h pW
  have e1 : nF * dO * (dx * d * (dy * d) * K) = c * (dx * d * dy * dO * dF) := by
    rw [show nF * dO * (dx * d * (dy * d) * K) = nF * (dy * d) * (dO * (dx * d) * K) by ac_rfl, hF, show Dy * dF * (dO * (dx * d) * K) = Dy * K * (dF * dO * (dx * d)) by ac_rfl, ey]
    ac_rfl
  have e2 : nO * dF * (dx * d * (dy * d) * K) = a * (dx * d * dy * dO * dF) := by
    rw [show nO * dF * (dx * d * (dy * d) * K) = nO * (dx * d) * (dF * (dy * d) * K) by ac_rfl, hO, show Dx * dO * (dF * (dy * d) * K) = Dx * K * (dF * dO * (dy * d)) by ac_rfl, ex]
    ac_rfl
  rw [e1, e2] at h'
  have pM : 0 ≤ dx * d * dy * dO * dF := Int.le_of_lt (Int.mul_pos (Int.mul_pos (Int.mul_pos (Int.mul_pos px pd) py) pO) pF)
  have := Int.mul_le_mul_of_nonneg_right hb pM
  omega
theorem tx2_ne (n d : List Int) : ((⟨(tx2 n d).toArray⟩ : ByteArray).toList == (⟨#[]⟩ : ByteArray).toList) = false := by
  rw [Go.ByteArray.toList_eq, Go.ByteArray.toList_eq]
  show (tx2 n d == []) = false
  have : 0 < (tx2 n d).length := by
    unfold tx2
    have := dgs_pos (val n).toNat
    split
    · exact this
    · rw [List.length_append]; omega
  cases h : tx2 n d with
  | nil => rw [h] at this; simp at this
  | cons c l => rfl
theorem RW_of {b : Bool} {n d : List Int} (hn : Wf n) (hd : Wf d) (hf : formB b n d = true) : RW (b, n, d) := by
  have h := form_len (p := (b, n, d)) hf
  simp only at h
  exact ⟨hn, hd, by show n.length ≤ _; omega, by show d.length ≤ _; omega⟩
theorem form_pos {b : Bool} {n d : List Int} (hd : Wf d) (hf : formB b n d = true) : 0 < val d := by
  have h := form_len (p := (b, n, d)) hf
  have h1 := val_ne hd h.2.2.2.2.1 h.2.2.1
  have h2 := val_nonneg hd
  omega
def OutN (b : Bool) (n d : List Int) (off : ByteArray) (y : Nat) : Prop :=
  (∃ z : Int, z ≠ 0 ∧ Spec Tryz.prog 7 [f64 y] (resR ((false, [], []), z))) ∨
  ∃ b1 n1 d1, Spec Tryz.prog 7 [f64 y] (resR ((b1, n1, d1), 0)) ∧ ((off.toList == (⟨#[]⟩ : ByteArray).toList) = true ∨ ((off.toList == (⟨#[]⟩ : ByteArray).toList) = false ∧ ∃ far, Spec Tryz.prog 16 [RA b1 n1 d1, RA b n d] (.sc (.string far)) ∧
    ((far.toList == (⟨#[]⟩ : ByteArray).toList) = true ∨ ((far.toList == (⟨#[]⟩ : ByteArray).toList) = false ∧ Spec Tryz.prog 19 [.sc (.string far), .sc (.string off)] (.sc (.bool false))))))
theorem out_of (b : Bool) (n d : List Int) (hn : Wf n) (hd : Wf d) (hf : formB b n d = true) (x : Nat) (b0 : Bool) (n0 d0 : List Int) (wn : Wf n0) (wd : Wf d0) (f0 : formB b0 n0 d0 = true) (hv : sv b0 n0 * 2 ^ 1074 = kmg x * val d0) :
    ∃ off, Spec Tryz.prog 16 [RA b0 n0 d0, RA b n d] (.sc (.string off)) ∧ ∀ y, y < 18446744073709551616 → (rg y < 9218868437227405312 → (kmg x * val d - sv b n * 2 ^ 1074).natAbs ≤ (kmg y * val d - sv b n * 2 ^ 1074).natAbs) → OutN b n d off y := by
  have e0 : ((⟨#[]⟩ : ByteArray).toList == (⟨#[]⟩ : ByteArray).toList) = true := by simp
  rcases s_away (b0, n0, d0) (b, n, d) (RW_of wn wd f0) (RW_of hn hd hf) f0 hf _ rfl _ rfl with cO | ⟨nO, dO, cO, wnO, wdO, fO, vO, pO⟩
  · refine ⟨_, cO, fun y hy _ => ?_⟩
    rcases exact_val y hy with h | ⟨_, b1, n1, d1, c1, _⟩
    · exact .inl h
    · exact .inr ⟨b1, n1, d1, c1, .inl e0⟩
  · refine ⟨_, cO, fun y hy hb => ?_⟩
    rcases exact_val y hy with h | ⟨hfin, b1, n1, d1, c1, w1, w2, f1, v1⟩
    · exact .inl h
    · refine .inr ⟨b1, n1, d1, c1, .inr ⟨tx2_ne _ _, ?_⟩⟩
      rcases s_away (b1, n1, d1) (b, n, d) (RW_of w1 w2 f1) (RW_of hn hd hf) f1 hf _ rfl _ rfl with cF | ⟨nF, dF, cF, wnF, wdF, fF, vF, pF⟩
      · exact ⟨_, cF, .inl e0⟩
      · refine ⟨_, cF, .inr ⟨tx2_ne _ _, s_less nF dF nO dO wnF wdF wnO wdO fF fO ?_⟩⟩
        exact far_less (K := 2 ^ 1074) (Int.pow_pos (by decide)) (form_pos hd hf) (form_pos wd f0) (form_pos w2 f1) pO pF hv v1 rfl rfl vO vF (hb hfin)
theorem l_FloatsNearest (hw : Spec Tryz.prog 6 [] (.sc (.bool true))) (p : RT) (hp : RW p) (hl : p.2.1.length ≤ 35184372088832 ∧ p.2.2.length ≤ 35184372088832) : Spec Tryz.prog 5 [RA p.1 p.2.1 p.2.2] (.sc (.bool true)) := by
  have cC := q2_Copy p hl
  obtain ⟨b, n, d⟩ := p
  simp only at cC hl hp ⊢
  by_cases hf : formB b n d = true
  · obtain ⟨x, cN, hx, hr, hb⟩ := near_all2 b n d hp.1 hp.2 hf
    rcases exact_val x hx with ⟨z, hz, cE⟩ | ⟨hfin, b0, n0, d0, cE, wn0, wd0, f0, v0⟩
    · refine spec_of_awp mixed Tryz.func5 rfl Tryz.call5 (by kernel_rfl) (by simp) rfl ?_
      refine T (call_by hw ?_)
      refine T (call_by cC ?_)
      refine T (call_by cN ?_)
      refine T (call_by cE ?_)
      exact TR rfl
    · obtain ⟨off, cO, hout⟩ := out_of b n d hp.1 hp.2 hf x b0 n0 d0 wn0 wd0 f0 v0
      have oU := hout _ (next_lt hx) fun _ => hb hfin _ (.inl rfl)
      have oV := hout _ (prev_lt hx) fun _ => hb hfin _ (.inr rfl)
      have cU := s_Next x hx
      have cV := s_Prev x hx
      clear hout hb
      generalize nextW x = u at *
      generalize prevW x = v at *
      refine spec_of_awp mixed Tryz.func5 rfl Tryz.call5 (by kernel_rfl) (by simp) rfl ?_
      refine T (call_by hw ?_)
      refine T (call_by cC ?_)
      refine T (call_by cN ?_)
      refine T (call_by cE ?_)
      refine T (call_by cO ?_)
      refine T (call_by cU ?_)
      refine T (call_by cV ?_)
      refine T (w_loop (α := Nat) (fun i => [(.t 1, .hp 1 1 0), (.h 1, .blk 1 2 [.sc (.bool b), U n, U d]), (.t 45, .hs 45 1 0 2 1), (.h 45, .blk 1 2 [f64 u, f64 v]), (.t 46, .sc (.int .i64 2)), (.t 47, .sc (.int .i64 i)), (.t 7, .sc (.string off))]) (fun i => i ≤ 2) (fun i => 2 - i) 0 (by decide) ?_ ?_)
      · exact Hk rfl <| Hk rfl <| Hk rfl <| Hk rfl <| Hk rfl <| Hk rfl <| Hk rfl trivial
      rintro i r hi J hJ
      rcases i with _ | _ | _ | i
      · skip
        rcases oU with ⟨z, hz, cE⟩ | ⟨b1, n1, d1, cE, hO⟩
        · refine T (call_by cE ?_)
          refine T ?_
          exact hJ _ (1) (by decide) (by decide) (Hk rfl <| Hk rfl <| Hk rfl <| Hk rfl <| Hk rfl <| Hk rfl <| Hk rfl trivial)
        · rcases hO with hO | hO
          · refine T (call_by cE ?_)
            refine T ?_
            rw [n_eql, hO, Option.map_some]
            refine T ?_
            exact hJ _ (1) (by decide) (by decide) (Hk rfl <| Hk rfl <| Hk rfl <| Hk rfl <| Hk rfl <| Hk rfl <| Hk rfl trivial)
          · obtain ⟨hoff, far, cA, hO⟩ := hO
            rcases hO with hO | ⟨hO, cL⟩
            · refine T (call_by cE ?_)
              refine T ?_
              rw [n_eql, hoff, Option.map_some]
              refine T (call_by cA ?_)
              refine T ?_
              rw [n_neq, hO, Option.map_some]
              refine T ?_
              exact hJ _ (1) (by decide) (by decide) (Hk rfl <| Hk rfl <| Hk rfl <| Hk rfl <| Hk rfl <| Hk rfl <| Hk rfl trivial)
            · refine T (call_by cE ?_)
              refine T ?_
              rw [n_eql, hoff, Option.map_some]
              refine T (call_by cA ?_)
              refine T ?_
              rw [n_neq, hO, Option.map_some]
              refine T (call_by cL ?_)
              refine T ?_
              exact hJ _ (1) (by decide) (by decide) (Hk rfl <| Hk rfl <| Hk rfl <| Hk rfl <| Hk rfl <| Hk rfl <| Hk rfl trivial)
      · skip
        rcases oV with ⟨z, hz, cE⟩ | ⟨b1, n1, d1, cE, hO⟩
        · refine T (call_by cE ?_)
          refine T ?_
          exact hJ _ (2) (by decide) (by decide) (Hk rfl <| Hk rfl <| Hk rfl <| Hk rfl <| Hk rfl <| Hk rfl <| Hk rfl trivial)
        · rcases hO with hO | hO
          · refine T (call_by cE ?_)
            refine T ?_
            rw [n_eql, hO, Option.map_some]
            refine T ?_
            exact hJ _ (2) (by decide) (by decide) (Hk rfl <| Hk rfl <| Hk rfl <| Hk rfl <| Hk rfl <| Hk rfl <| Hk rfl trivial)
          · obtain ⟨hoff, far, cA, hO⟩ := hO
            rcases hO with hO | ⟨hO, cL⟩
            · refine T (call_by cE ?_)
              refine T ?_
              rw [n_eql, hoff, Option.map_some]
              refine T (call_by cA ?_)
              refine T ?_
              rw [n_neq, hO, Option.map_some]
              refine T ?_
              exact hJ _ (2) (by decide) (by decide) (Hk rfl <| Hk rfl <| Hk rfl <| Hk rfl <| Hk rfl <| Hk rfl <| Hk rfl trivial)
            · refine T (call_by cE ?_)
              refine T ?_
              rw [n_eql, hoff, Option.map_some]
              refine T (call_by cA ?_)
              refine T ?_
              rw [n_neq, hO, Option.map_some]
              refine T (call_by cL ?_)
              refine T ?_
              exact hJ _ (2) (by decide) (by decide) (Hk rfl <| Hk rfl <| Hk rfl <| Hk rfl <| Hk rfl <| Hk rfl <| Hk rfl trivial)
      · exact TR rfl
      · omega
  · have hf' : formB b n d = false := by simpa using hf
    have c1 := (s_NearA b n d hp.1 hp.2 hl.1 hl.2 hf').1
    have fQ := q2_Form b n d hp.1 hp.2 (by omega) (by omega)
    rw [hf'] at fQ
    refine spec_of_awp mixed Tryz.func5 rfl Tryz.call5 (by kernel_rfl) (by simp) rfl ?_
    refine T (call_by hw ?_)
    refine T (call_by cC ?_)
    refine T (call_by c1 ?_)
    refine T (call_by fQ ?_)
    refine T (call_by (s_bits 0) ?_)
    exact TR rfl
end Go.Ab
end
