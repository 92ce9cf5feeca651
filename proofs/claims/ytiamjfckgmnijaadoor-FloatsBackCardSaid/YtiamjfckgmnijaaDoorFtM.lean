import Derived.Test.YtiamjfckgmnijaaDoorFtL
set_option linter.all false
section
namespace Go.Ab
open Go Go.Proofs Go.Proofs.YtiamjfckgmnijaaDoor.Pl
set_option maxRecDepth 100000
set_option maxHeartbeats 8000000
theorem N_mul_len {a b : List Int} (ha : Wf a) (hb : Wf b) : (N (val a * val b)).length ≤ a.length + b.length := by
  refine (N_is (Int.mul_nonneg (val_nonneg ha) (val_nonneg hb))).len ?_
  rw [Int.pow_add]
  have h1 := val_lt ha
  have h2 := val_lt hb
  have h3 := val_nonneg ha
  have h4 := val_nonneg hb
  have h5 : val a * val b ≤ val a * 4294967296 ^ b.length := Int.mul_le_mul_of_nonneg_left (Int.le_of_lt h2) h3
  have h6 : val a * 4294967296 ^ b.length < 4294967296 ^ a.length * 4294967296 ^ b.length := Int.mul_lt_mul_of_pos_right h1 (pow_pos' _)
  omega
end Go.Ab
end
section
namespace Go.Ab
open Go Go.Proofs Go.Proofs.YtiamjfckgmnijaaDoor.Pl
set_option maxRecDepth 100000
set_option maxHeartbeats 8000000
abbrev RT := Bool × List Int × List Int
def rc (p : RT) : List AV := [.sc (.bool p.1), U p.2.1, U p.2.2]
abbrev RS (l : List RT) : AV := .vs l.length (l.flatMap rc)
theorem rc_len : ∀ (l : List RT), (l.flatMap rc).length = 3 * l.length
  | [] => rfl
  | p :: l => by simp only [List.flatMap_cons, List.length_append, rc_len l, rc, List.length_cons, List.length_nil]; omega
theorem rc_at : ∀ (l : List RT) (k : Nat) (h : k < l.length), ((l.flatMap rc).drop (k * 3)).take 3 = rc l[k]
  | p :: l, 0, h => by simp [rc]
  | p :: l, k + 1, h => by
    have := rc_at l k (by simpa using h)
    simp only [List.flatMap_cons, List.getElem_cons_succ]
    rw [show (k + 1) * 3 = (rc p).length + k * 3 by simp [rc]; omega, List.drop_length_add_append]
    exact this
structure RW (p : RT) : Prop where
  wn : Wf p.2.1
  wd : Wf p.2.2
  ln : p.2.1.length ≤ 4611686018427387904
  ld : p.2.2.length ≤ 4611686018427387904
def formR (p : RT) : Bool := formB p.1 p.2.1 p.2.2
end Go.Ab
end
