import Derived.Test.YtiamjfckgmnijaaGreatDoorFnL
set_option linter.all false
section
namespace Go.Ab
open Go Go.Proofs Go.Proofs.YtiamjfckgmnijaaGreatDoor.Pl
set_option maxRecDepth 100000
set_option maxHeartbeats 8000000
theorem N_mul_len {a b : List Int} (ha : Wf a) (hb : Wf b) : (N (val a * val b)).length ≤ a.length + b.length := by
  refine (N_is (Int.mul_nonneg (val_nonneg ha) (val_nonneg hb))).len ?_
  rw [Int.pow_add]
  have h1 := val_lt ha
  have h2 := val_lt hb
  have h3 := val_nonneg ha
  have h4 := val_nonneg hb
  have h5 : val a * val b ≤ val a * 4294967296 ^ b.length := Int.mul_le_mul_of_nonneg_left (Int.le_of_lt h2) h3
  have h6 : val a * 4294967296 ^ b.length < 4294967296 ^ a.length * 4294967296 ^ b.length := Int.mul_lt_mul_of_pos_right h1 (pow_pos' _)
  omega
end Go.Ab
end
section
namespace Go.Ab
open Go Go.Proofs Go.Proofs.YtiamjfckgmnijaaGreatDoor.Pl
set_option maxRecDepth 100000
set_option maxHeartbeats 8000000
abbrev RT := Bool × List Int × List Int
def rc (p : RT) : List AV := [.sc (.bool p.1), U p.2.1, U p.2.2]
abbrev RS (l : List RT) : AV := .vs l.length (l.flatMap rc)
theorem rc_len : ∀ (l : List RT), (l.flatMap rc).length = 3 * l.length
  | [] => rfl
  | p :: l => by simp only [List.flatMap_cons, List.length_append, rc_len l, rc, List.length_cons, List.length_nil]; omega
theorem rc_at : ∀ (l : List RT) (k : Nat) (h : k < l.length), ((l.flatMap rc).drop (k * 3)).take 3 = rc l[k]
  | p :: l, 0, h => by simp [rc]
  | p :: l, k + 1, h => by
    have := rc_at l k (by simpa using h)
    simp only [List.flatMap_cons, List.getElem_cons_succ]
    rw [show (k + 1) * 3 = (rc p).length + k * 3 by simp [rc]; omega, List.drop_length_add_append]
    exact this
structure RW (p : RT) : Prop where
  wn : Wf p.2.1
  wd : Wf p.2.2
  ln : p.2.1.length ≤ 4611686018427387904
  ld : p.2.2.length ≤ 4611686018427387904
def formR (p : RT) : Bool := formB p.1 p.2.1 p.2.2
end Go.Ab
end
section
namespace Go.Ab
open Go Go.Proofs Go.Proofs.YtiamjfckgmnijaaGreatDoor.Pl
set_option maxRecDepth 100000
set_option maxHeartbeats 8000000
def mulR (p q : RT) : RT × Int := mkR (p.1 != q.1) (val p.2.1 * val q.2.1) (val p.2.2 * val q.2.2)
def divR (p q : RT) : RT × Int := if q.2.1.length = 0 then ((false, [], []), 10) else mkR (p.1 != q.1) (val p.2.1 * val q.2.2) (val p.2.2 * val q.2.1)
def ifF (p q : RT) (r : RT × Int) : RT × Int := if (formR p && formR q) = true then r else ((false, [], []), 20)
theorem ff {p q : RT} (h : (formR p && formR q) = true) : formR p = true ∧ formR q = true := by simpa using h
theorem form_len {p : RT} (h : formR p = true) : p.2.1.length ≤ 16 ∧ p.2.2.length ≤ 16 ∧ p.2.2.length ≠ 0 ∧ trim p.2.1 = p.2.1 ∧ trim p.2.2 = p.2.2 ∧ (p.1 = true → p.2.1.length ≠ 0) ∧ Int.gcd (val p.2.1) (val p.2.2) = 1 := by
  have h := of_decide_eq_true h
  have h1 := of_decide_eq_true h.1
  have h2 := of_decide_eq_true h.2.1
  exact ⟨h1.1, h2.1, h.2.2.1, h1.2, h2.2, h.2.2.2.1, h.2.2.2.2⟩
theorem all_two (p q : RT) : [p, q].all formR = (formR p && formR q) := by simp
end Go.Ab
end
