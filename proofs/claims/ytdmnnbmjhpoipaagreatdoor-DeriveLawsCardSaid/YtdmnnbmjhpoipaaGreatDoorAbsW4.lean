import Derived.Test.YtdmnnbmjhpoipaaGreatDoorAbsGf
set_option maxRecDepth 1000000
namespace Go.Proofs.Abs
open Go
theorem cW1 : okd ft 120 aW1 rW1 = true := by decide +kernel
theorem cW28 : okd wW7 47 aW28 rW28 = true := by decide +kernel
theorem cW32 : okd wW8 47 aW32 rW32 = true := by decide +kernel
theorem cW22 : okd ft 100068 aW22 rW22 = true := by decide +kernel
theorem cW17 : okd wW5 42 aW17 rW17 = true := by decide +kernel
theorem cW29 : okd wW8 27 aW29 rW29 = true := by decide +kernel
theorem cW33 : okd wW9 10 aW33 rW33 = true := by decide +kernel
theorem cW35 : okd ft 25 aW35 rW35 = true := by decide +kernel
theorem cW27 : okd ft 42 aW27 rW27 = true := by decide +kernel
theorem cW26 : okd wW6 15 aW26 rW26 = true := by decide +kernel
theorem cW24 : okd ft 100068 aW24 rW24 = true := by decide +kernel
theorem cW12 : okd wW5 42 aW12 rW12 = true := by decide +kernel
theorem cW14 : okd wW5 42 aW14 rW14 = true := by decide +kernel
theorem cW6 : okd wW3 82 aW6 rW6 = true := by decide +kernel
theorem cW10 : okd wW3 82 aW10 rW10 = true := by decide +kernel
theorem cW21 : okd wW6 25 aW21 rW21 = true := by decide +kernel
theorem cW11 : okd wW4 66 aW11 rW11 = true := by decide +kernel
theorem cW13 : okd wW4 66 aW13 rW13 = true := by decide +kernel
theorem cW5 : okd wW2 102 aW5 rW5 = true := by decide +kernel
theorem cW9 : okd wW2 102 aW9 rW9 = true := by decide +kernel
theorem cW3 : okd ft 43 aW3 rW3 = true := by decide +kernel
theorem cW7 : okd ft 43 aW7 rW7 = true := by decide +kernel
theorem cW30 : okd ft 84 aW30 rW30 = true := by decide +kernel
theorem cW4 : okd wW1 26 aW4 rW4 = true := by decide +kernel
theorem cW8 : okd wW1 26 aW8 rW8 = true := by decide +kernel
theorem cW16 : okd ft 65 aW16 rW16 = true := by decide +kernel
theorem cW19 : okd ft 65 aW19 rW19 = true := by decide +kernel
end Go.Proofs.Abs
