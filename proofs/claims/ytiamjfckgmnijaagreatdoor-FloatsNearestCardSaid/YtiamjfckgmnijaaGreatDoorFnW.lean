import Derived.Test.YtiamjfckgmnijaaGreatDoorRows
import Derived.Test.YtiamjfckgmnijaaGreatDoorFnF
import Derived.Test.YtiamjfckgmnijaaGreatDoorFnM
set_option linter.all false
section
namespace Go.Ab
open Go Go.Proofs Go.Proofs.YtiamjfckgmnijaaGreatDoor.Pl
set_option maxRecDepth 100000
def RL (p : RT) : Prop := p.2.1.length ≤ 35184372088832 ∧ p.2.2.length ≤ 35184372088832
theorem typed_bool {k : Nat} {ws : List AV} (h : Typed Tryz.prog k 4 ws) : ∃ b, ws = [.sc (.bool b)] := by
  cases k with
  | zero => exact h.elim
  | succ k => simpa only [Typed, Tryz.underlying4] using h
theorem typed_u32 {k : Nat} {ws : List AV} (h : Typed Tryz.prog k 54 ws) : ∃ z : Int, ws = [u32 z] ∧ 0 ≤ z ∧ z < 4294967296 := by
  cases k with
  | zero => exact h.elim
  | succ k =>
    simp only [Typed, Tryz.underlying54] at h
    obtain ⟨z, rfl, hz⟩ := h
    refine ⟨z, rfl, ?_⟩
    simp [Lit.wf, IntKind.min, IntKind.max, IntKind.signed, IntKind.bits] at hz
    omega
theorem typed_U {k : Nat} {ws : List AV} (h : Typed Tryz.prog k 24 ws) : ∃ l : List Int, ws = [U l] ∧ Wf l ∧ l.length * 4 ≤ reachBytes := by
  cases k with
  | zero => exact h.elim
  | succ k =>
    simp only [Typed, Tryz.underlying24] at h
    obtain ⟨css, rfl, hl, hc⟩ := h
    have key : ∀ css : List (List AV), (∀ c ∈ css, c.length = Tryz.prog.cellsOf 54 ∧ Typed Tryz.prog k 54 c) → ∃ l : List Int, css.flatten = l.map u32 ∧ l.length = css.length ∧ Wf l := by
      intro css
      induction css with
      | nil => exact fun _ => ⟨[], rfl, rfl, Wf.nil⟩
      | cons c css ih =>
        intro hc
        obtain ⟨l, h1, h2, h3⟩ := ih fun c hcc => hc c (by simp [hcc])
        obtain ⟨z, rfl, h4, h5⟩ := typed_u32 (hc c (by simp)).2
        exact ⟨z :: l, by simp [h1], by simp [h2], Wf.cons h4 h5 h3⟩
    obtain ⟨l, h1, h2, h3⟩ := key css hc
    refine ⟨l, by rw [h1, ← h2], h3, ?_⟩
    rw [h2]
    have : Tryz.prog.bytesOf 54 = 4 := by kernel_rfl
    rw [this] at hl
    exact hl
theorem typed_RA {k : Nat} {ws : List AV} (h : Typed Tryz.prog k 26 ws) : ∃ p : RT, ws = rc p ∧ RW p ∧ RL p := by
  cases k with
  | zero => exact h.elim
  | succ k =>
    simp only [Typed, Tryz.underlying26] at h
    obtain ⟨h1, h2⟩ := h
    have c0 : Tryz.prog.cellsOf 4 = 1 := by kernel_rfl
    have c1 : Tryz.prog.cellsOf 24 = 1 := by kernel_rfl
    have c2 : Tryz.prog.cellsOf 26 = 3 := by kernel_rfl
    rw [c2] at h1
    match ws, h1 with
    | [x, y, z], _ =>
      have g0 := h2 _ (List.mem_cons_self)
      have g1 := h2 _ (List.mem_cons_of_mem _ (List.mem_cons_self))
      have g2 := h2 _ (List.mem_cons_of_mem _ (List.mem_cons_of_mem _ (List.mem_cons_self)))
      simp only [c0, c1] at g0 g1 g2
      obtain ⟨b, e0⟩ := typed_bool g0
      obtain ⟨n, e1, wn, ln⟩ := typed_U g1
      obtain ⟨d, e2, wd, ld⟩ := typed_U g2
      cases e0
      cases e1
      cases e2
      have hr : reachBytes = 140737488351232 := by decide
      rw [hr] at ln ld
      exact ⟨(b, n, d), rfl, ⟨wn, wd, by show n.length ≤ _; omega, by show d.length ≤ _; omega⟩, by show n.length ≤ _; omega, by show d.length ≤ _; omega⟩
theorem top_RA {k : Nat} {x : AV} (h : Top Tryz.prog k 26 x) : ∃ p : RT, x = RA p.1 p.2.1 p.2.2 ∧ RW p ∧ RL p := by
  simp only [Top, Tryz.underlying26] at h
  obtain ⟨ws, rfl, ht⟩ := h
  obtain ⟨p, rfl, h1, h2⟩ := typed_RA ht
  exact ⟨p, rfl, h1, h2⟩
theorem top_U {k : Nat} {x : AV} (h : Top Tryz.prog k 24 x) : ∃ l : List Int, x = U l ∧ Wf l ∧ l.length * 4 ≤ reachBytes := by
  simp only [Top, Tryz.underlying24] at h
  obtain ⟨l, e, h1, h2⟩ := typed_U h
  cases e
  exact ⟨l, rfl, h1, h2⟩
end Go.Ab
end
