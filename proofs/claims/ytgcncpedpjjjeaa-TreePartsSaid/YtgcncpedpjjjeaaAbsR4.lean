/- Proved: for every two trees TreeParts returns true and leaves its arguments as they were. Without conditions: the whole of the given statement. -/
import Derived.Test.YtgcncpedpjjjeaaAbsL4
import Derived.Test.YtgcncpedpjjjeaaAbs22
import Derived.Test.YtgcncpedpjjjeaaRows
import Derived.ProofKit
set_option linter.all false
set_option linter.constructorNameAsVariable false
set_option linter.defProp false
set_option linter.unusedVariables false
set_option linter.unusedSimpArgs false
set_option maxRecDepth 100000
namespace Go.Proofs.Ytgcncpedpjjjeaa
open Go Go.RowKit Go.Proofs.Abs
theorem own : ownKnob Try.prog.godebug = none := by kernel_rfl
theorem laidOut : laidOutB Try.prog = true := by kernel_rfl
def shs4 : List ASh := [.one Go.Proofs.Abs.shTree, .one Go.Proofs.Abs.shTree]
theorem hs4 : Try.f4.params.toList.mapM (ashp Try.prog) = some shs4 := by kernel_rfl
theorem law4 : ∀ avs, OkAs shs4 avs → ∃ n H', acall v7 n 4 [] avs [] = some (.bool true, H') := by
  intro avs h
  match avs, h with
  | [a, b], h =>
    obtain ⟨ha, hb, _⟩ := h
    obtain ⟨t, rfl, hw⟩ := okv_tree ha
    obtain ⟨u, rfl, hv⟩ := okv_tree hb
    obtain ⟨n, hn⟩ := cwp_run (run4 t u hw hv)
    exact ⟨n, _, hn⟩
theorem lifted (os : Os) (started : os.Started) (H : Type) (enc : TypeId × Value → H) :
    ReturnsInHanded {} Try.checked os 4 .any (Rows.treePartsSpec.pre6 enc Try.prog Try.f4 Rows.treePartsRow.domain false) (Rows.treePartsSpec.post enc Try.prog Try.f4 false true false false) := by
  refine returnsInHanded_of_change_sized (C := Try.checked) own started (by kernel_rfl) Try.func4
    (ChangeSpec.witness6 (enc := enc) (C := Try.checked) false ⟨#[], #[.slice none 0 0, .slice none 0 0], []⟩ 8 (by kernel_rfl) (by kernel_rfl) (by kernel_rfl) (by kernel_rfl)) ?_
  intro W base args ds gs before hval hW hcnd hsz0 _
  exact law_post orders v7_ok laidOut (by decide) rfl Try.underlying4 hs4 (by kernel_rfl) law4 rfl (fun ds h => by match ds, h with | [_, _], _ => rfl) hval hW
theorem treeParts_holds : Rows.TreePartsSaid :=
  OpenClaim.holds_of_wide 4 Try.f4 rfl rfl rfl rfl rfl rfl rfl ⟨rfl, rfl, rfl, rfl, rfl⟩ rfl rfl rfl rfl rfl (by kernel_rfl) Try.func4 (by kernel_rfl)
    (of_decide_eq_true (by kernel_rfl)) (by unfold Func.isWrapper; first | (rw [if_pos (by decide +kernel)]; kernel_rfl) | (rw [if_neg (by decide +kernel)]; exact ⟨rfl, rfl⟩))
    (fun os started H enc _ => lifted os started H enc)
#print axioms treeParts_holds
end Go.Proofs.Ytgcncpedpjjjeaa
