import Derived.Test.YtgffficaoioljaaCh9
import Derived.Test.YtgffficaoioljaaCh19
section
namespace Go.Proofs.Ytgffficaoioljaa.PlN
open Go.RowKit Go.Proofs.Ytgffficaoioljaa.P Go.Proofs.Ytgffficaoioljaa.Pl Go.Proofs.Ytgffficaoioljaa.PlA Go.Proofs.YtgffficaoioljaaW.PrintWords Go.Proofs.YtgffficaoioljaaW.PrintLast Go.Proofs.YtgffficaoioljaaW.PrintMore
set_option maxRecDepth 100000 in
theorem wakes_at : sibyllaw01_wakes.f 100 = some true := by decide +kernel
theorem wakes : Ev (fun k => sibyllaw01_wakes.f k) true := Ev.of sibyllaw01_wakes.mono wakes_at
end Go.Proofs.Ytgffficaoioljaa.PlN
end
