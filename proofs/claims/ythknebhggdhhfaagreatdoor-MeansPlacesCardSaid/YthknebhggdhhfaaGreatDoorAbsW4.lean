import Derived.Test.YthknebhggdhhfaaGreatDoorAbsGf
set_option maxRecDepth 1000000
namespace Go.Proofs.Abs
open Go
theorem cW51 : okd wW9 14 aW51 rW51 = true := by decide +kernel
theorem cW48 : okd wW7 24 aW48 rW48 = true := by decide +kernel
theorem cW38 : okd wW7 24 aW38 rW38 = true := by decide +kernel
theorem cW1 : okd ft 206 aW1 rW1 = true := by decide +kernel
theorem cW6 : okd wW1 80 aW6 rW6 = true := by decide +kernel
end Go.Proofs.Abs
