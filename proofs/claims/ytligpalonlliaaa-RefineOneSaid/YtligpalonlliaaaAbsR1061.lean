/- Proved: for every set RefineOne returns true and leaves its argument as it was. Without conditions: the whole of the given statement. -/
import Derived.Test.YtligpalonlliaaaAbsZ9
import Derived.Test.YtligpalonlliaaaAbsB
import Derived.Test.YtligpalonlliaaaRows
import Derived.ProofKit
set_option linter.all false
set_option linter.constructorNameAsVariable false
set_option linter.defProp false
set_option linter.unusedVariables false
set_option linter.unusedSimpArgs false
set_option maxRecDepth 100000
namespace Go.Proofs.Ytligpalonlliaaa
open Go Go.RowKit Go.Proofs.Abs
theorem own : ownKnob Try.prog.godebug = none := by kernel_rfl
theorem laidOut : laidOutB Try.prog = true := by kernel_rfl
def shs1061 : List ASh := [.one Go.Proofs.Abs.shSet]
theorem hs1061 : Try.f5.params.toList.mapM (ashp Try.prog) = some shs1061 := by kernel_rfl
theorem law1061 : ∀ avs, OkAs shs1061 avs → ∃ n H', acall r8 n 5 [] avs [] = some (.bool true, H') := by
  intro avs h
  match avs, h with
  | [a0], h =>
    obtain ⟨h0, _⟩ := h
    obtain ⟨v0, rfl, w0⟩ := okv_set h0
    obtain ⟨n, hn⟩ := cwp_run (run1061 v0 w0)
    exact ⟨n, _, hn⟩
theorem lifted (os : Os) (started : os.Started) (H : Type) (enc : TypeId × Value → H) :
    ReturnsInHanded {} Try.checked os 5 .any (Rows.refineOneSpec.pre6 enc Try.prog Try.f5 Rows.refineOneRow.domain false) (Rows.refineOneSpec.post enc Try.prog Try.f5 false true false false) := by
  refine returnsInHanded_of_change_sized (C := Try.checked) own started (by kernel_rfl) Try.func5
    (ChangeSpec.witness6 (enc := enc) (C := Try.checked) false ⟨#[], #[.slice none 0 0], []⟩ 8 (by kernel_rfl) (by kernel_rfl) (by kernel_rfl) (by kernel_rfl)) ?_
  intro W base args ds gs before hval hW hcnd hsz0 _
  exact law_post orders r8_ok laidOut (by decide) rfl Try.underlying4 hs1061 (by kernel_rfl) law1061 rfl (fun ds h => by match ds, h with | [_], _ => rfl) hval hW
theorem refineOne_holds : Rows.RefineOneSaid :=
  OpenClaim.holds_of_wide 5 Try.f5 rfl rfl rfl rfl rfl rfl rfl ⟨rfl, rfl, rfl, rfl, rfl⟩ rfl rfl rfl rfl rfl (by kernel_rfl) Try.func5 (by kernel_rfl)
    (of_decide_eq_true (by kernel_rfl)) (by unfold Func.isWrapper; first | (rw [if_pos (by decide +kernel)]; kernel_rfl) | (rw [if_neg (by decide +kernel)]; exact ⟨rfl, rfl⟩))
    (fun os started H enc _ => lifted os started H enc)
#print axioms refineOne_holds
end Go.Proofs.Ytligpalonlliaaa
