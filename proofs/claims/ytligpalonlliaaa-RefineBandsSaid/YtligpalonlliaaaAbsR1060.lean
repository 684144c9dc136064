/- Proved: for all sets and scalars RefineBands returns true and leaves its arguments as they were. Without conditions: the whole of the given statement. -/
import Derived.Test.YtligpalonlliaaaAbsZ18
import Derived.Test.YtligpalonlliaaaAbsB
import Derived.Test.YtligpalonlliaaaRows
import Derived.ProofKit
set_option linter.all false
set_option linter.constructorNameAsVariable false
set_option linter.defProp false
set_option linter.unusedVariables false
set_option linter.unusedSimpArgs false
set_option maxRecDepth 100000
namespace Go.Proofs.Ytligpalonlliaaa
open Go Go.RowKit Go.Proofs.Abs
theorem own : ownKnob Try.prog.godebug = none := by kernel_rfl
theorem laidOut : laidOutB Try.prog = true := by kernel_rfl
def shs1060 : List ASh := [.one Go.Proofs.Abs.shSets, .one Go.Proofs.Abs.shRow]
theorem hs1060 : Try.f4.params.toList.mapM (ashp Try.prog) = some shs1060 := by kernel_rfl
theorem law1060 : ∀ avs, OkAs shs1060 avs → ∃ n H', acall r12 n 4 [] avs [] = some (.bool true, H') := by
  intro avs h
  match avs, h with
  | [a0, a1], h =>
    obtain ⟨h0, h1, _⟩ := h
    obtain ⟨v0, rfl, w0⟩ := okv_sets h0
    obtain ⟨v1, rfl, w1⟩ := okv_row h1
    obtain ⟨n, hn⟩ := cwp_run (run1060 v0 v1 w0 w1)
    exact ⟨n, _, hn⟩
theorem lifted (os : Os) (started : os.Started) (H : Type) (enc : TypeId × Value → H) :
    ReturnsInHanded {} Try.checked os 4 .any (Rows.refineBandsSpec.pre6 enc Try.prog Try.f4 Rows.refineBandsRow.domain false) (Rows.refineBandsSpec.post enc Try.prog Try.f4 false true false false) := by
  refine returnsInHanded_of_change_sized (C := Try.checked) own started (by kernel_rfl) Try.func4
    (ChangeSpec.witness6 (enc := enc) (C := Try.checked) false ⟨#[], #[.slice none 0 0, .slice none 0 0], []⟩ 8 (by kernel_rfl) (by kernel_rfl) (by kernel_rfl) (by kernel_rfl)) ?_
  intro W base args ds gs before hval hW hcnd hsz0 _
  exact law_post orders r12_ok laidOut (by decide) rfl Try.underlying4 hs1060 (by kernel_rfl) law1060 rfl (fun ds h => by match ds, h with | [_, _], _ => rfl) hval hW
theorem refineBands_holds : Rows.RefineBandsSaid :=
  OpenClaim.holds_of_wide 4 Try.f4 rfl rfl rfl rfl rfl rfl rfl ⟨rfl, rfl, rfl, rfl, rfl⟩ rfl rfl rfl rfl rfl (by kernel_rfl) Try.func4 (by kernel_rfl)
    (of_decide_eq_true (by kernel_rfl)) (by unfold Func.isWrapper; first | (rw [if_pos (by decide +kernel)]; kernel_rfl) | (rw [if_neg (by decide +kernel)]; exact ⟨rfl, rfl⟩))
    (fun os started H enc _ => lifted os started H enc)
#print axioms refineBands_holds
end Go.Proofs.Ytligpalonlliaaa
