import Derived.Test.YthknebhggdhhfaaGreatDoorAbsGf
set_option maxRecDepth 1000000
namespace Go.Proofs.Abs
open Go
theorem cW26 : okd wW7 43 aW26 rW26 = true := by decide +kernel
end Go.Proofs.Abs
