import Derived.Test.YthknebhggdhhfaaGreatDoorAbsGf
set_option maxRecDepth 1000000
namespace Go.Proofs.Abs
open Go
theorem cW49 : okd wW7 24 aW49 rW49 = true := by decide +kernel
theorem cW52 : okd wW8 16 aW52 rW52 = true := by decide +kernel
theorem cW35 : okd wW7 24 aW35 rW35 = true := by decide +kernel
end Go.Proofs.Abs
