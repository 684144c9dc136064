import Derived.Test.YtdmnnbmjhpoipaaGreatDoorAbsGf
set_option maxRecDepth 1000000
namespace Go.Proofs.Abs
open Go
theorem cWT : okd wW10 8 [] (.bool true) = true := by decide +kernel
theorem cW34 : okd wW5 42 aW34 rW34 = true := by decide +kernel
theorem cW31 : okd wW7 81 aW31 rW31 = true := by decide +kernel
theorem cW0 : okd ft 120 aW0 rW0 = true := by decide +kernel
theorem cW25 : okd wW6 45 aW25 rW25 = true := by decide +kernel
end Go.Proofs.Abs
