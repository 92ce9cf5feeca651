import Derived.Test.YtiamjfckgmnijaaDoorFtN
set_option linter.all false
section
namespace Go.Ab
open Go Go.Proofs Go.Proofs.YtiamjfckgmnijaaDoor.Pl
set_option maxRecDepth 100000
set_option maxHeartbeats 8000000
end Go.Ab
end
