import Derived.Test.YthknebhggdhhfaaGreatDoorAbsGf
set_option maxRecDepth 1000000
namespace Go.Proofs.Abs
open Go
theorem cW47 : okd wW7 24 aW47 rW47 = true := by decide +kernel
theorem cWT : okd wW10 12 [] (.bool true) = true := by decide +kernel
theorem cW34 : okd wW7 24 aW34 rW34 = true := by decide +kernel
theorem cW28 : okd wW5 87 aW28 rW28 = true := by decide +kernel
theorem cW0 : okd ft 128 aW0 rW0 = true := by decide +kernel
theorem cW39 : okd wW7 24 aW39 rW39 = true := by decide +kernel
end Go.Proofs.Abs
