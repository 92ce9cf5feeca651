import Derived.Test.YtiamjfckgmnijaaGreatDoorFnM
set_option linter.all false
section
namespace Go.Ab
open Go Go.Proofs Go.Proofs.YtiamjfckgmnijaaGreatDoor.Pl
set_option maxRecDepth 100000
set_option maxHeartbeats 8000000
def addR (p q : RT) : RT × Int :=
  if p.1 = q.1 then mkR p.1 (val p.2.1 * val q.2.2 + val q.2.1 * val p.2.2) (val p.2.2 * val q.2.2)
  else if val p.2.1 * val q.2.2 < val q.2.1 * val p.2.2 then mkR q.1 (val q.2.1 * val p.2.2 - val p.2.1 * val q.2.2) (val p.2.2 * val q.2.2)
  else mkR p.1 (val p.2.1 * val q.2.2 - val q.2.1 * val p.2.2) (val p.2.2 * val q.2.2)
theorem N_len_le {x : Int} {n : Nat} (h0 : 0 ≤ x) {l : List Int} (hl : x ≤ val l) (hw : Wf l) (hn : l.length ≤ n) : (N x).length ≤ n :=
  Nat.le_trans ((N_is h0).len (Int.lt_of_le_of_lt hl (val_lt hw))) hn
theorem sgn_lt0 {x y : Int} : sgn x y < 0 ↔ x < y := by
  unfold sgn
  split
  · simp; omega
  · split
    · simp; omega
    · simp; omega
theorem sum_len {a b : List Int} (ha : Wf a) (hb : Wf b) {n : Nat} (la : a.length ≤ n) (lb : b.length ≤ n) : (N (val a + val b)).length ≤ n + 1 := by
  have h1 := val_lt ha
  have h2 := val_lt hb
  have h3 := pow_le la
  have h4 := pow_le lb
  refine (N_is (Int.add_nonneg (val_nonneg ha) (val_nonneg hb))).len ?_
  rw [Int.pow_succ]
  have h5 := pow_pos' n
  generalize (4294967296 : Int) ^ n = K at *
  omega
def turnR (p : RT) : RT := (!p.1 && decide (0 < p.2.1.length), N (val p.2.1), N (val p.2.2))
def negR (p : RT) : RT × Int := if formR p = true then (turnR p, 0) else ((false, [], []), 20)
def cmpR (p q : RT) : Int × Int :=
  if (formR p && formR q) = true then
    (if p.1 = true ∧ q.1 = false then (-1, 0) else if q.1 = true ∧ p.1 = false then (1, 0)
     else if p.1 = true then (0 - sgn (val p.2.1 * val q.2.2) (val q.2.1 * val p.2.2), 0) else (sgn (val p.2.1 * val q.2.2) (val q.2.1 * val p.2.2), 0))
  else (0, 20)
abbrev resI (p : Int × Int) : AV := .tup [.sc (.int .i64 p.1), .sc (.int .i64 p.2)]
theorem sgn_bd (x y : Int) : -1 ≤ sgn x y ∧ sgn x y ≤ 1 := by
  unfold sgn
  split
  · omega
  · split <;> omega
end Go.Ab
end
