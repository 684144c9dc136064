/- Proved: for all sets, bands and numbers RefineTells returns true and leaves its arguments as they were. Without conditions: the whole of the given statement. -/
import Derived.Test.YtligpalonlliaaaGreatAbsV5
import Derived.Test.YtligpalonlliaaaGreatAbsB
import Derived.Test.YtligpalonlliaaaGreatRows
import Derived.ProofKit
set_option linter.all false
set_option linter.constructorNameAsVariable false
set_option linter.defProp false
set_option linter.unusedVariables false
set_option linter.unusedSimpArgs false
set_option maxRecDepth 100000
namespace Go.Proofs.YtligpalonlliaaaGreat
open Go Go.RowKit Go.Proofs.Abs
theorem own : ownKnob Tryz.prog.godebug = none := by kernel_rfl
theorem laidOut : laidOutB Tryz.prog = true := by kernel_rfl
def shs1001 : List ASh := [.one Go.Proofs.Abs.shSets, .one Go.Proofs.Abs.shSets, Go.Proofs.Abs.shAsked]
theorem hs1001 : Tryz.f3.params.toList.mapM (ashp Tryz.prog) = some shs1001 := by kernel_rfl
theorem law1001 : ∀ avs, OkAs shs1001 avs → ∃ n H', acall r16 n 3 [] avs [] = some (.bool true, H') := by
  intro avs h
  match avs, h with
  | [a0, a1, a2], h =>
    obtain ⟨h0, h1, h2, _⟩ := h
    obtain ⟨v0, rfl, w0⟩ := okv_sets h0
    obtain ⟨v1, rfl, w1⟩ := okv_sets h1
    obtain ⟨v2, rfl, w2⟩ := okv_asked h2
    obtain ⟨n, hn⟩ := cwp_run (run1001 v0 v1 v2 w0 w1 w2)
    exact ⟨n, _, hn⟩
theorem lifted (os : Os) (started : os.Started) (H : Type) (enc : TypeId × Value → H) :
    ReturnsInHanded {} Tryz.checked os 3 .any (Rows.refineTellsSpec.pre6 enc Tryz.prog Tryz.f3 Rows.refineTellsRow.domain false) (Rows.refineTellsSpec.post enc Tryz.prog Tryz.f3 false true false false) := by
  refine returnsInHanded_of_change_sized (C := Tryz.checked) own started (by kernel_rfl) Tryz.func3
    (ChangeSpec.witness6 (enc := enc) (C := Tryz.checked) false ⟨#[], #[.slice none 0 0, .slice none 0 0, .agg #[.slice none 0 0, .int .i64 0]], []⟩ 8 (by kernel_rfl) (by kernel_rfl) (by kernel_rfl) (by kernel_rfl)) ?_
  intro W base args ds gs before hval hW hcnd hsz0 _
  exact law_post orders r16_ok laidOut (by decide) rfl Tryz.underlying4 hs1001 (by kernel_rfl) law1001 rfl (fun ds h => by match ds, h with | [_, _, _], _ => rfl) hval hW
theorem refineTells_holds : Rows.RefineTellsSaid :=
  OpenClaim.holds_of_wide 3 Tryz.f3 rfl rfl rfl rfl rfl rfl rfl ⟨rfl, rfl, rfl, rfl, rfl⟩ rfl rfl rfl rfl rfl (by kernel_rfl) Tryz.func3 (by kernel_rfl)
    (of_decide_eq_true (by kernel_rfl)) (by unfold Func.isWrapper; first | (rw [if_pos (by decide +kernel)]; kernel_rfl) | (rw [if_neg (by decide +kernel)]; exact ⟨rfl, rfl⟩))
    (fun os started H enc _ => lifted os started H enc)
#print axioms refineTells_holds
end Go.Proofs.YtligpalonlliaaaGreat
