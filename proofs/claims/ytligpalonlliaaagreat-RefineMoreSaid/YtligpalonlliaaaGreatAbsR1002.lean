/- Proved: for all sets RefineMore returns true and leaves its arguments as they were. Without conditions: the whole of the given statement. -/
import Derived.Test.YtligpalonlliaaaGreatAbsZ20
import Derived.Test.YtligpalonlliaaaGreatAbsB
import Derived.Test.YtligpalonlliaaaGreatRows
import Derived.ProofKit
set_option linter.all false
set_option linter.constructorNameAsVariable false
set_option linter.defProp false
set_option linter.unusedVariables false
set_option linter.unusedSimpArgs false
set_option maxRecDepth 100000
namespace Go.Proofs.YtligpalonlliaaaGreat
open Go Go.RowKit Go.Proofs.Abs
theorem own : ownKnob Tryz.prog.godebug = none := by kernel_rfl
theorem laidOut : laidOutB Tryz.prog = true := by kernel_rfl
def shs1002 : List ASh := [.one Go.Proofs.Abs.shSets, .one Go.Proofs.Abs.shSet]
theorem hs1002 : Tryz.f4.params.toList.mapM (ashp Tryz.prog) = some shs1002 := by kernel_rfl
theorem law1002 : ∀ avs, OkAs shs1002 avs → ∃ n H', acall r13 n 4 [] avs [] = some (.bool true, H') := by
  intro avs h
  match avs, h with
  | [a0, a1], h =>
    obtain ⟨h0, h1, _⟩ := h
    obtain ⟨v0, rfl, w0⟩ := okv_sets h0
    obtain ⟨v1, rfl, w1⟩ := okv_set h1
    obtain ⟨n, hn⟩ := cwp_run (run1002 v0 v1 w0 w1)
    exact ⟨n, _, hn⟩
theorem lifted (os : Os) (started : os.Started) (H : Type) (enc : TypeId × Value → H) :
    ReturnsInHanded {} Tryz.checked os 4 .any (Rows.refineMoreSpec.pre6 enc Tryz.prog Tryz.f4 Rows.refineMoreRow.domain false) (Rows.refineMoreSpec.post enc Tryz.prog Tryz.f4 false true false false) := by
  refine returnsInHanded_of_change_sized (C := Tryz.checked) own started (by kernel_rfl) Tryz.func4
    (ChangeSpec.witness6 (enc := enc) (C := Tryz.checked) false ⟨#[], #[.slice none 0 0, .slice none 0 0], []⟩ 8 (by kernel_rfl) (by kernel_rfl) (by kernel_rfl) (by kernel_rfl)) ?_
  intro W base args ds gs before hval hW hcnd hsz0 _
  exact law_post orders r13_ok laidOut (by decide) rfl Tryz.underlying4 hs1002 (by kernel_rfl) law1002 rfl (fun ds h => by match ds, h with | [_, _], _ => rfl) hval hW
theorem refineMore_holds : Rows.RefineMoreSaid :=
  OpenClaim.holds_of_wide 4 Tryz.f4 rfl rfl rfl rfl rfl rfl rfl ⟨rfl, rfl, rfl, rfl, rfl⟩ rfl rfl rfl rfl rfl (by kernel_rfl) Tryz.func4 (by kernel_rfl)
    (of_decide_eq_true (by kernel_rfl)) (by unfold Func.isWrapper; first | (rw [if_pos (by decide +kernel)]; kernel_rfl) | (rw [if_neg (by decide +kernel)]; exact ⟨rfl, rfl⟩))
    (fun os started H enc _ => lifted os started H enc)
#print axioms refineMore_holds
end Go.Proofs.YtligpalonlliaaaGreat
