import Derived.Test.YtgffficaoioljaaRbSlQ
set_option linter.all false
section
namespace Go.Ab
open Go Go.Proofs Go.Proofs.Ytgffficaoioljaa.Pl
set_option maxRecDepth 100000
theorem typed_RAT {k : Nat} {ws : List AV} (h : Typed Try.prog k 50 ws) : ∃ p : RT, ws = rc p ∧ RW p ∧ RLT p := by
  cases k with
  | zero => exact h.elim
  | succ k =>
    simp only [Typed, Try.underlying50] at h
    obtain ⟨h1, h2⟩ := h
    have c0 : Try.prog.cellsOf 4 = 1 := by kernel_rfl
    have c1 : Try.prog.cellsOf 22 = 1 := by kernel_rfl
    have c2 : Try.prog.cellsOf 50 = 3 := by kernel_rfl
    rw [c2] at h1
    match ws, h1 with
    | [x, y, z], _ =>
      have g0 := h2 _ (List.mem_cons_self)
      have g1 := h2 _ (List.mem_cons_of_mem _ (List.mem_cons_self))
      have g2 := h2 _ (List.mem_cons_of_mem _ (List.mem_cons_of_mem _ (List.mem_cons_self)))
      simp only [c0, c1] at g0 g1 g2
      obtain ⟨b, e0⟩ := typed_bool g0
      obtain ⟨n, e1, wn, ln⟩ := typed_U g1
      obtain ⟨d, e2, wd, ld⟩ := typed_U g2
      cases e0
      cases e1
      cases e2
      have hr : reachBytes = 140737488351232 := by decide
      rw [hr] at ln ld
      exact ⟨(b, n, d), rfl, ⟨wn, wd, by show n.length ≤ _; omega, by show d.length ≤ _; omega⟩, by show n.length ≤ _; omega, by show d.length ≤ _; omega⟩
theorem top_RAT {k : Nat} {x : AV} (h : Top Try.prog k 50 x) : ∃ p : RT, x = RA p.1 p.2.1 p.2.2 ∧ RW p ∧ RLT p := by
  simp only [Top, Try.underlying50] at h
  obtain ⟨ws, rfl, ht⟩ := h
  obtain ⟨p, rfl, h1, h2⟩ := typed_RAT ht
  exact ⟨p, rfl, h1, h2⟩
end Go.Ab
end
