import Derived.Test.YtiamjfckgmnijaaDoorFtN
set_option linter.all false
section
namespace Go.Ab
open Go Go.Proofs Go.Proofs.YtiamjfckgmnijaaDoor.Pl
set_option maxRecDepth 100000
set_option maxHeartbeats 8000000
def bitL (l : List Int) (n : Nat) : Bool := decide (l.getD (n / 32) 0 / 2 ^ (n % 32) % 2 = 1)
end Go.Ab
end
section
namespace Go.Ab
open Go Go.Proofs Go.Proofs.YtiamjfckgmnijaaDoor.Pl
set_option maxRecDepth 100000
set_option maxHeartbeats 8000000
theorem plus_step {a b o : List Int} {i : Nat} {c s : Int} (ho : o.length = i) (h : val (a.take i) + val (b.take i) = val o + 4294967296 ^ i * c) (e : s = c + a.getD i 0 + b.getD i 0) :
    val (a.take (i + 1)) + val (b.take (i + 1)) = val (o ++ [s % 4294967296]) + 4294967296 ^ (i + 1) * (s / 4294967296) := by
  rw [val_take_at a, val_take_at b, val_snoc, ho, Int.pow_succ]
  exact add_step h (by have := Int.mul_ediv_add_emod s 4294967296; omega)
end Go.Ab
end
