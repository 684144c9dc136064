/- A part of a proof: the text that states the row tells what is proved. No condition is laid on anything. -/
import Derived.Test.YtligpalonlliaaaGreatAbsC
set_option linter.all false
set_option linter.constructorNameAsVariable false
set_option linter.defProp false
set_option linter.unusedVariables false
set_option linter.unusedSimpArgs false
set_option maxRecDepth 1000000
namespace Go.Proofs.Abs
open Go
/-! 1004: caesuralaw04.wakes, by running it. -/
theorem w1004 : ((acall ft 100 6 [] [] []).map fun r => beqA r.1 (.bool true) && beqH r.2 []) = some true := by decide +kernel
theorem wake_go {g : FT} {f : Nat} (h : ((acall g 100 f [] [] []).map fun r => beqA r.1 (.bool true) && beqH r.2 []) = some true) : ∃ n, acall g n f [] [] [] = some (.bool true, []) := by
  refine ⟨100, ?_⟩
  cases e : acall g 100 f [] [] [] with
  | none => rw [e] at h; cases h
  | some r =>
    obtain ⟨v, H⟩ := r
    rw [e] at h
    simp only [Option.map_some, Option.some.injEq, Bool.and_eq_true] at h
    rw [beqA_eq h.1, beqH_eq h.2]
noncomputable def kW : Kon Unit := ⟨fun _ => True, fun _ => [], fun _ => .bool true⟩
theorem eW (q0 : Id) (H0 : Heap) : kW.ora q0 [] H0 = some (.bool true, H0) := kW.eq (fun _ _ _ => rfl) () trivial q0 H0
theorem ook1004 : OraOK Tryz.prog (6 % 100000) kW.ora := lift2 orders ft_ok (fun x hd => by simp [kW]) (fun x hd => by simp [kW, PU]) (fun x hd => wake_go w1004)
end Go.Proofs.Abs
