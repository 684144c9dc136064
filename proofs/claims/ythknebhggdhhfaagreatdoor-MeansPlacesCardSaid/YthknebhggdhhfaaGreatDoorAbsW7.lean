import Derived.Test.YthknebhggdhhfaaGreatDoorAbsGf
set_option maxRecDepth 1000000
namespace Go.Proofs.Abs
open Go
theorem cW46 : okd wW7 24 aW46 rW46 = true := by decide +kernel
theorem cW2 : okd ft 206 aW2 rW2 = true := by decide +kernel
theorem cW12 : okd wW5 26 aW12 rW12 = true := by decide +kernel
theorem cW43 : okd wW7 24 aW43 rW43 = true := by decide +kernel
theorem cW18 : okd wW5 87 aW18 rW18 = true := by decide +kernel
theorem cW36 : okd wW7 24 aW36 rW36 = true := by decide +kernel
theorem cW37 : okd wW4 69 aW37 rW37 = true := by decide +kernel
theorem cW40 : okd wW4 69 aW40 rW40 = true := by decide +kernel
theorem cW42 : okd wW4 69 aW42 rW42 = true := by decide +kernel
theorem cW45 : okd wW4 69 aW45 rW45 = true := by decide +kernel
theorem cW24 : okd wW3 99 aW24 rW24 = true := by decide +kernel
theorem cW31 : okd wW5 87 aW31 rW31 = true := by decide +kernel
theorem cW10 : okd wW3 57 aW10 rW10 = true := by decide +kernel
theorem cW16 : okd wW3 57 aW16 rW16 = true := by decide +kernel
theorem cW25 : okd wW3 57 aW25 rW25 = true := by decide +kernel
theorem cW19 : okd wW6 55 aW19 rW19 = true := by decide +kernel
theorem cW29 : okd wW6 55 aW29 rW29 = true := by decide +kernel
theorem cW32 : okd wW6 55 aW32 rW32 = true := by decide +kernel
theorem cW11 : okd wW4 125 aW11 rW11 = true := by decide +kernel
theorem cW20 : okd wW4 125 aW20 rW20 = true := by decide +kernel
theorem cW30 : okd wW4 125 aW30 rW30 = true := by decide +kernel
theorem cW9 : okd wW2 89 aW9 rW9 = true := by decide +kernel
theorem cW15 : okd wW2 89 aW15 rW15 = true := by decide +kernel
theorem cW23 : okd wW2 89 aW23 rW23 = true := by decide +kernel
theorem cW5 : okd ft 123 aW5 rW5 = true := by decide +kernel
theorem cW7 : okd ft 123 aW7 rW7 = true := by decide +kernel
theorem cW13 : okd ft 123 aW13 rW13 = true := by decide +kernel
theorem cW21 : okd ft 123 aW21 rW21 = true := by decide +kernel
theorem cW8 : okd wW1 80 aW8 rW8 = true := by decide +kernel
theorem cW14 : okd wW1 80 aW14 rW14 = true := by decide +kernel
theorem cW22 : okd wW1 80 aW22 rW22 = true := by decide +kernel
theorem cW17 : okd ft 124 aW17 rW17 = true := by decide +kernel
theorem cW27 : okd ft 124 aW27 rW27 = true := by decide +kernel
end Go.Proofs.Abs
