/- Proved: for all sets and scalars RefineParts returns true and leaves its arguments as they were. Without conditions: the whole of the given statement. -/
import Derived.Test.YtligpalonlliaaaAbsZ15
import Derived.Test.YtligpalonlliaaaAbsB
import Derived.Test.YtligpalonlliaaaRows
import Derived.ProofKit
set_option linter.all false
set_option linter.constructorNameAsVariable false
set_option linter.defProp false
set_option linter.unusedVariables false
set_option linter.unusedSimpArgs false
set_option maxRecDepth 100000
namespace Go.Proofs.Ytligpalonlliaaa
open Go Go.RowKit Go.Proofs.Abs
theorem own : ownKnob Try.prog.godebug = none := by kernel_rfl
theorem laidOut : laidOutB Try.prog = true := by kernel_rfl
def shs1059 : List ASh := [.one Go.Proofs.Abs.shSets, .one Go.Proofs.Abs.shRow]
theorem hs1059 : Try.f3.params.toList.mapM (ashp Try.prog) = some shs1059 := by kernel_rfl
theorem law1059 : ∀ avs, OkAs shs1059 avs → ∃ n H', acall r10 n 3 [] avs [] = some (.bool true, H') := by
  intro avs h
  match avs, h with
  | [a0, a1], h =>
    obtain ⟨h0, h1, _⟩ := h
    obtain ⟨v0, rfl, w0⟩ := okv_sets h0
    obtain ⟨v1, rfl, w1⟩ := okv_row h1
    obtain ⟨n, hn⟩ := cwp_run (run1059 v0 v1 w0 w1)
    exact ⟨n, _, hn⟩
theorem lifted (os : Os) (started : os.Started) (H : Type) (enc : TypeId × Value → H) :
    ReturnsInHanded {} Try.checked os 3 .any (Rows.refinePartsSpec.pre6 enc Try.prog Try.f3 Rows.refinePartsRow.domain false) (Rows.refinePartsSpec.post enc Try.prog Try.f3 false true false false) := by
  refine returnsInHanded_of_change_sized (C := Try.checked) own started (by kernel_rfl) Try.func3
    (ChangeSpec.witness6 (enc := enc) (C := Try.checked) false ⟨#[], #[.slice none 0 0, .slice none 0 0], []⟩ 8 (by kernel_rfl) (by kernel_rfl) (by kernel_rfl) (by kernel_rfl)) ?_
  intro W base args ds gs before hval hW hcnd hsz0 _
  exact law_post orders r10_ok laidOut (by decide) rfl Try.underlying4 hs1059 (by kernel_rfl) law1059 rfl (fun ds h => by match ds, h with | [_, _], _ => rfl) hval hW
theorem refineParts_holds : Rows.RefinePartsSaid :=
  OpenClaim.holds_of_wide 3 Try.f3 rfl rfl rfl rfl rfl rfl rfl ⟨rfl, rfl, rfl, rfl, rfl⟩ rfl rfl rfl rfl rfl (by kernel_rfl) Try.func3 (by kernel_rfl)
    (of_decide_eq_true (by kernel_rfl)) (by unfold Func.isWrapper; first | (rw [if_pos (by decide +kernel)]; kernel_rfl) | (rw [if_neg (by decide +kernel)]; exact ⟨rfl, rfl⟩))
    (fun os started H enc _ => lifted os started H enc)
#print axioms refineParts_holds
end Go.Proofs.Ytligpalonlliaaa
