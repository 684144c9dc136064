import Derived.Test.YthknebhggdhhfaaGreatDoorAbsGf
set_option maxRecDepth 1000000
namespace Go.Proofs.Abs
open Go
theorem cW50 : okd wW8 19 aW50 rW50 = true := by decide +kernel
theorem cW33 : okd wW7 62 aW33 rW33 = true := by decide +kernel
theorem cW41 : okd wW7 24 aW41 rW41 = true := by decide +kernel
theorem cW44 : okd wW4 69 aW44 rW44 = true := by decide +kernel
theorem cW3 : okd wW1 187 aW3 rW3 = true := by decide +kernel
end Go.Proofs.Abs
