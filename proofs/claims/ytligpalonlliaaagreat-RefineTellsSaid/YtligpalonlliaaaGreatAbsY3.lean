/- A part of a proof: the text that states the row tells what is proved. No condition is laid on anything. -/
import Derived.Test.YtligpalonlliaaaGreatAbsY2
set_option linter.all false
set_option linter.constructorNameAsVariable false
set_option linter.defProp false
set_option linter.unusedVariables false
set_option linter.unusedSimpArgs false
set_option maxRecDepth 100000
set_option maxHeartbeats 4000000
namespace Go.Proofs.Abs
open Go
/-! 64: sets.Less. -/
def cmpS : List (Int × Int) → List (Int × Int) → Int
  | [], [] => 0
  | [], _ :: _ => -1
  | _ :: _, [] => 1
  | x :: a, y :: b => if Rg.ordZ x y = 0 then cmpS a b else Rg.ordZ x y
def lessS (a b : List (Int × Int)) : Bool := decide (cmpS a b < 0)
theorem drop_get {a : List (Int × Int)} {j : Nat} (h : j < a.length) : a.drop j = a.getD j (0, 0) :: a.drop (j + 1) := by
  rw [List.drop_eq_getElem_cons h]
  simp [List.getElem?_eq_getElem h]
end Go.Proofs.Abs
