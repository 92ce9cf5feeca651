import Derived.Test.YtgffficaoioljaaRows
import Derived.Test.YtgffficaoioljaaRbF
import Derived.Test.YtgffficaoioljaaRbG
import Derived.Test.YtgffficaoioljaaRbA
set_option linter.all false
section
namespace Go.Ab
open Go Go.Proofs Go.Proofs.Ytgffficaoioljaa.Pl
set_option maxRecDepth 100000
theorem typed_u32 {k : Nat} {ws : List AV} (h : Typed Try.prog k 47 ws) : ∃ z : Int, ws = [u32 z] ∧ 0 ≤ z ∧ z < 4294967296 := by
  cases k with
  | zero => exact h.elim
  | succ k =>
    simp only [Typed, Try.underlying47] at h
    obtain ⟨z, rfl, hz⟩ := h
    refine ⟨z, rfl, ?_⟩
    simp [Lit.wf, IntKind.min, IntKind.max, IntKind.signed, IntKind.bits] at hz
    omega
theorem typed_U {k : Nat} {ws : List AV} (h : Typed Try.prog k 22 ws) : ∃ l : List Int, ws = [U l] ∧ Wf l ∧ l.length * 4 ≤ reachBytes := by
  cases k with
  | zero => exact h.elim
  | succ k =>
    simp only [Typed, Try.underlying22] at h
    obtain ⟨css, rfl, hl, hc⟩ := h
    have key : ∀ css : List (List AV), (∀ c ∈ css, c.length = Try.prog.cellsOf 47 ∧ Typed Try.prog k 47 c) → ∃ l : List Int, css.flatten = l.map u32 ∧ l.length = css.length ∧ Wf l := by
      intro css
      induction css with
      | nil => exact fun _ => ⟨[], rfl, rfl, Wf.nil⟩
      | cons c css ih =>
        intro hc
        obtain ⟨l, h1, h2, h3⟩ := ih fun c hcc => hc c (by simp [hcc])
        obtain ⟨z, rfl, h4, h5⟩ := typed_u32 (hc c (by simp)).2
        exact ⟨z :: l, by simp [h1], by simp [h2], Wf.cons h4 h5 h3⟩
    obtain ⟨l, h1, h2, h3⟩ := key css hc
    refine ⟨l, by rw [h1, ← h2], h3, ?_⟩
    rw [h2]
    have : Try.prog.bytesOf 47 = 4 := by kernel_rfl
    rw [this] at hl
    exact hl
theorem top_U {k : Nat} {x : AV} (h : Top Try.prog k 22 x) : ∃ l : List Int, x = U l ∧ Wf l ∧ l.length * 4 ≤ reachBytes := by
  simp only [Top, Try.underlying22] at h
  obtain ⟨l, e, h1, h2⟩ := typed_U h
  cases e
  exact ⟨l, rfl, h1, h2⟩
end Go.Ab
end
