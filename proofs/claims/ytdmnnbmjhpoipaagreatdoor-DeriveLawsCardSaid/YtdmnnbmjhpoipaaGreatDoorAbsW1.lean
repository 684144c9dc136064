import Derived.Test.YtdmnnbmjhpoipaaGreatDoorAbsGf
set_option maxRecDepth 1000000
namespace Go.Proofs.Abs
open Go
theorem cW2 : okd wW1 56 aW2 rW2 = true := by decide +kernel
theorem cW23 : okd ft 100068 aW23 rW23 = true := by decide +kernel
end Go.Proofs.Abs
