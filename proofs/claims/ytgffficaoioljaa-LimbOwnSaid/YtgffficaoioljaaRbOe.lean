import Derived.Test.YtgffficaoioljaaRbWc
import Derived.Test.YtgffficaoioljaaRbV
import Derived.Test.YtgffficaoioljaaRbN
import Derived.Test.YtgffficaoioljaaRbAbTs
set_option linter.all false
section
namespace Go.Ab
open Go Go.RowKit Go.Proofs Go.Proofs.Ytgffficaoioljaa.P Go.Proofs.YtgffficaoioljaaW.PrintWords
set_option maxRecDepth 100000
theorem addr_at1 (b o j : Nat) : (⟨b, o, none⟩ : Addr).add (j * 1 + 0) = ⟨b, o + j, none⟩ := by
  rw [Nat.mul_one, Nat.add_zero, Addr.add]
  split
  · rename_i h; rw [h]; rfl
  · rfl
theorem rep_of_R {e : TypeId} {B : Nat} {w : World} {v : Value} {l : List Int} {M : Nat → Prop} (hM : ∀ b, M b → b < B) (h : Kd.R (Kd.int .u32) e w B (fun _ => True) v l) : Rep w μ0 M (U l) v := by
  obtain ⟨A, c, e1, h1, h2⟩ := Kd.R_reads h
  obtain ⟨inner, ho⟩ := Kd.R_own h
  simp only [Rep]
  refine ⟨A, c, e1, h1, ?_⟩
  by_cases h0 : l = []
  · left; rw [h0]; rfl
  right
  have hl : 0 < l.length := List.length_pos_iff.2 h0
  obtain ⟨_, _, h3⟩ := h2
  obtain ⟨ad, rfl, h4⟩ := h3 hl
  rcases ho.2 with ⟨e2, _⟩ | ⟨g, cap, cur, e2, hg, hh, r⟩
  · rw [e1] at e2
    cases e2
  · rw [e1] at e2
    cases e2
    refine ⟨g, 0, rfl, fun hm => by have := hM g hm; omega, Row.of_get fun i x hx => ?_⟩
    rw [List.getElem?_map] at hx
    cases hi : l[i]? with
    | none => rw [hi] at hx; cases hx
    | some y =>
      rw [hi] at hx
      cases hx
      obtain ⟨cs, k1, k2, k3⟩ := h4 i y hi
      have k4 : cs = [Value.int .u32 y] := k2
      subst k4
      have k5 := k3 0 _ rfl
      have e : (⟨g, 0, none⟩ : Addr).add (i * (Kd.int .u32).sz + 0) = ⟨g, 0 + i, none⟩ := by
        show (⟨g, 0, none⟩ : Addr).add (i * 1 + 0) = _
        exact addr_at1 _ _ _
      rw [e] at k5
      exact ⟨rfl, _, k5, rfl⟩
theorem C_of_rep {w : World} {v : Value} {l : List Int} {M : Nat → Prop} (hl : l.length ≤ 1000000) (h : Rep w μ0 M (U l) v) : ∃ A c, v = .slice A l.length c ∧ l.length ≤ c ∧ Kd.C (Kd.int .u32) w A l.length l := by
  simp only [Rep] at h
  obtain ⟨A, c, rfl, h1, h2⟩ := h
  refine ⟨A, c, rfl, h1, rfl, by omega, fun h0 => ?_⟩
  rcases h2 with h2 | ⟨b, o, rfl, _, h3⟩
  · rw [List.map_eq_nil_iff.1 h2] at h0
    exact absurd h0 (by decide)
  · refine ⟨_, rfl, fun j p hp => ⟨[.int .u32 p], rfl, rfl, fun i u hu => ?_⟩⟩
    cases i with
    | succ i => simp at hu
    | zero =>
      simp only [List.getElem?_cons_zero, Option.some.injEq] at hu
      subst hu
      obtain ⟨_, y, h4, h5⟩ := Row.get h3 j (u32 p) (by rw [List.getElem?_map, hp]; rfl)
      have h6 : y = .int .u32 p := h5
      subst h6
      have e : (⟨b, o, none⟩ : Addr).add (j * 1 + 0) = ⟨b, o + j, none⟩ := addr_at1 _ _ _
      show w.cell? ((⟨b, o, none⟩ : Addr).add (j * 1 + 0)) = _
      rw [e]
      exact h4
theorem ext_below {w w' : World} (h : Below w.heap.size w w') : Ext M0 w w' := ⟨h.os, h.tape, h.output, h.size, fun b hb _ => h.block b hb⟩
theorem spec_Text (k : Nat) (l : List Int) (r1 : ByteArray) (r2 : Int) (hl : l.length ≤ 1000000) (h : limb_Text.f k l = some (r1, r2)) : Spec Try.prog 29 [U l] (.tup [.sc (.string r1), .sc (.int .i64 r2)]) := by
  refine ⟨Try.call29, fun M w vs hM hr => ?_, rfl⟩
  cases vs with
  | nil => simp [RepL] at hr
  | cons v vs =>
    cases vs with
    | cons _ _ => simp [RepL] at hr
    | nil =>
      simp only [RepL, and_true] at hr
      obtain ⟨A, c, rfl, h1, h2⟩ := C_of_rep hl hr
      refine Calls.mono (limb_Text.calls k A c l r1 r2 w h2 h1 h) fun e w' he => ?_
      obtain ⟨rfl, hb⟩ := he
      exact ⟨⟨_, rfl, by simp [RepL, Rep]⟩, ext_below hb⟩
theorem spec_Read (k : Nat) (s : ByteArray) (r1 : List Int) (r2 : Int) (h : limb_Read.f k s = some (r1, r2)) : Spec Try.prog 31 [.sc (.string s)] (.tup [U r1, .sc (.int .i64 r2)]) := by
  refine ⟨Try.call31, fun M w vs hM hr => ?_, rfl⟩
  cases vs with
  | nil => simp [RepL] at hr
  | cons v vs =>
    cases vs with
    | cons _ _ => simp [RepL] at hr
    | nil =>
      simp only [RepL, Rep, and_true] at hr
      subst hr
      refine Calls.mono (limb_Read.calls k s r1 r2 w h) fun e w' he => ?_
      obtain ⟨v, rfl, h1, hb⟩ := he
      exact ⟨⟨_, rfl, by simp only [RepL, Rep, and_true]; exact rep_of_R hM h1⟩, ext_below hb⟩
theorem text_at : limb_Text.f 100 [0, 1] = some (⟨#[52, 50, 57, 52, 57, 54, 55, 50, 57, 54]⟩, 0) := by decide +kernel
theorem read_at : limb_Read.f 100 ⟨#[48, 48, 55]⟩ = some ([7], 0) := by decide +kernel
end Go.Ab
end
section
namespace Go.Ab
open Go Go.Proofs Go.Proofs.Ytgffficaoioljaa.Pl
set_option maxRecDepth 100000
set_option maxHeartbeats 8000000
theorem w1a : Spec Try.prog 42 [U [4294967295], U [1]] (.tup [U [0, 1], .sc (.int .i64 0)]) := (eF_ok mixed prog_ok lentFs 4000 20).1 _ _ _ (by kernel_rfl)
theorem w1q : Spec Try.prog 26 [U [0, 1], U [10]] (.tup [U [429496729], U [6], .sc (.int .i64 0)]) := (eF_ok mixed prog_ok lentFs 4000 20).1 _ _ _ (by kernel_rfl)
theorem w1m : Spec Try.prog 21 [U [3], U [5]] (.tup [U [15], .sc (.int .i64 0)]) := (eF_ok mixed prog_ok lentFs 4000 20).1 _ _ _ (by kernel_rfl)
theorem w1f : Spec Try.prog 35 [U [0]] (.sc (.bool false)) := (eF_ok mixed prog_ok lentFs 4000 20).1 _ _ _ (by kernel_rfl)
theorem w1s (l : List Int) (h : l.length ≤ 16) : Spec Try.prog 25 [U l, U l] (.sc (.bool true)) := by
  have := q_Same1 l l (by omega) (by omega)
  rwa [decide_eq_true rfl] at this
theorem sbin_eq (s : ByteArray) : sbin .eql s s = some (.bool true) := by simp [sbin]
theorem wakes1 : Spec Try.prog 20 [] (.sc (.bool true)) := by
  refine spec_of_awp mixed Try.func20 rfl Try.call20 (by kernel_rfl) (by simp) rfl ?_
  refine TS ?_
  refine w_cut (α := Unit) (fun _ => []) (fun _ => True) ?_ ?_
  · intro J hJ
    refine T ?_
    exact hJ _ () trivial trivial
  rintro ⟨⟩ r _
  refine w_cut (α := Unit) (fun _ => [(.t 1, U [0, 1]), (.t 2, .sc (.int .i64 0))]) (fun _ => True) ?_ ?_
  · intro J hJ
    refine T (call_by w1a ?_)
    refine T ?_
    exact hJ _ () trivial Hv
  rintro ⟨⟩ r _
  refine w_cut (α := Unit) (fun _ => [(.t 1, U [0, 1]), (.t 2, .sc (.int .i64 0)), (.t 3, U [429496729]), (.t 4, U [6]), (.t 5, .sc (.int .i64 0))]) (fun _ => True) ?_ ?_
  · intro J hJ
    refine T (call_by w1q ?_)
    refine T ?_
    exact hJ _ () trivial Hv
  rintro ⟨⟩ r _
  refine w_cut (α := Unit) (fun _ => [(.t 1, U [0, 1]), (.t 2, .sc (.int .i64 0)), (.t 3, U [429496729]), (.t 4, U [6]), (.t 5, .sc (.int .i64 0)), (.t 6, .sc (.string ⟨#[52, 50, 57, 52, 57, 54, 55, 50, 57, 54]⟩)), (.t 7, .sc (.int .i64 0))]) (fun _ => True) ?_ ?_
  · intro J hJ
    refine T (call_by (spec_Text 100 [0, 1] _ _ (by decide) text_at) ?_)
    refine T ?_
    exact hJ _ () trivial Hv
  rintro ⟨⟩ r _
  refine w_cut (α := Unit) (fun _ => [(.t 1, U [0, 1]), (.t 2, .sc (.int .i64 0)), (.t 3, U [429496729]), (.t 4, U [6]), (.t 5, .sc (.int .i64 0)), (.t 6, .sc (.string ⟨#[52, 50, 57, 52, 57, 54, 55, 50, 57, 54]⟩)), (.t 7, .sc (.int .i64 0)), (.t 8, U [7]), (.t 9, .sc (.int .i64 0))]) (fun _ => True) ?_ ?_
  · intro J hJ
    refine T (call_by (spec_Read 100 ⟨#[48, 48, 55]⟩ _ _ read_at) ?_)
    refine T ?_
    exact hJ _ () trivial Hv
  rintro ⟨⟩ r _
  refine w_cut (α := Unit) (fun _ => [(.t 1, U [0, 1]), (.t 2, .sc (.int .i64 0)), (.t 3, U [429496729]), (.t 4, U [6]), (.t 5, .sc (.int .i64 0)), (.t 6, .sc (.string ⟨#[52, 50, 57, 52, 57, 54, 55, 50, 57, 54]⟩)), (.t 7, .sc (.int .i64 0)), (.t 8, U [7]), (.t 9, .sc (.int .i64 0)), (.t 10, U [15]), (.t 11, .sc (.int .i64 0))]) (fun _ => True) ?_ ?_
  · intro J hJ
    refine T (call_by w1m ?_)
    refine T ?_
    exact hJ _ () trivial Hv
  rintro ⟨⟩ r _
  refine T (call_by (w1s [0, 1] (by decide)) ?_)
  refine T (call_by (w1s [429496729] (by decide)) ?_)
  refine T (call_by (w1s [6] (by decide)) ?_)
  refine T ?_
  rw [sbin_eq, Option.map_some]
  refine T (call_by (w1s [7] (by decide)) ?_)
  refine T (call_by (w1s [15] (by decide)) ?_)
  refine T (call_by w1f ?_)
  exact TR rfl
end Go.Ab
end
