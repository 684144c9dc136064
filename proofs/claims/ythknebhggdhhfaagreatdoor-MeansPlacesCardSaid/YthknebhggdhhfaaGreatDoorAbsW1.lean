import Derived.Test.YthknebhggdhhfaaGreatDoorAbsGf
set_option maxRecDepth 1000000
namespace Go.Proofs.Abs
open Go
theorem cW4 : okd wW2 112 aW4 rW4 = true := by decide +kernel
end Go.Proofs.Abs
