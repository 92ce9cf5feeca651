import Derived.Test.YtiamjfckgmnijaaDoorFtL
set_option linter.all false
section
namespace Go.Ab
open Go Go.Proofs Go.Proofs.YtiamjfckgmnijaaDoor.Pl
set_option maxRecDepth 100000
set_option maxHeartbeats 8000000
def oV (k : Nat) : Nat → AV
  | 0 => .sc (.slice none 0 0)
  | g + 1 => .hs k (g + 1) 0 (g + 1) 1
def oB : Nat → List Int → AV
  | 0, _ => .blk 0 0 []
  | g + 1, o => .blk (g + 1) 2 (o.map u32)
end Go.Ab
end
