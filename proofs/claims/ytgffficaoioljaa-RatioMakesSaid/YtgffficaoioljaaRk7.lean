import Derived.Test.YtgffficaoioljaaRk6
import Derived.Laws.StructEq
section
namespace Go.Proofs.YtgffficaoioljaaW.PrintWords
open Go.RowKit
section
variable {P : Program} {d : Nat} {xs ys : Array Value} {f : Field} {fs : List Field} {a b : Value} {r s : Bool} {w : World}
end
end Go.Proofs.YtgffficaoioljaaW.PrintWords
end
