import Derived.Test.YtdmnnbmjhpoipaaGreatDoorAbsGf
set_option maxRecDepth 1000000
namespace Go.Proofs.Abs
open Go
theorem cW18 : okd wW7 24 aW18 rW18 = true := by decide +kernel
theorem cW20 : okd wW5 42 aW20 rW20 = true := by decide +kernel
theorem cW15 : okd wW6 25 aW15 rW15 = true := by decide +kernel
end Go.Proofs.Abs
