import Derived.Test.YtgffficaoioljaaRbE
import Derived.Test.YtgffficaoioljaaRbG
set_option linter.all false
section
namespace Go.Ab
open Go Go.Proofs
set_option maxRecDepth 100000
set_option maxHeartbeats 8000000
def lentFs (f : FuncId) : Bool := f == 87 || f == 113
theorem prog_ok : progOK Try.prog = true := by decide +kernel
theorem wakes2 : Spec Try.prog 47 [] (.sc (.bool true)) := spec_run mixed prog_ok lentFs 4000 20 (by decide +kernel)
end Go.Ab
end
