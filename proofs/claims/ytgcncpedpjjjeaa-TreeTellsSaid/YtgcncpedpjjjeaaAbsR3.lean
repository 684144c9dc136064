/- Proved: for every two trees and every set, row and kind TreeTells returns true and leaves its arguments as they were. Without conditions: the whole of the given statement. -/
import Derived.Test.YtgcncpedpjjjeaaAbsL3
import Derived.Test.YtgcncpedpjjjeaaAbsB
import Derived.Test.YtgcncpedpjjjeaaRows
import Derived.ProofKit
set_option linter.all false
set_option linter.constructorNameAsVariable false
set_option linter.defProp false
set_option linter.unusedVariables false
set_option linter.unusedSimpArgs false
set_option maxRecDepth 100000
namespace Go.Proofs.Ytgcncpedpjjjeaa
open Go Go.RowKit Go.Proofs.Abs
theorem own : ownKnob Try.prog.godebug = none := by kernel_rfl
theorem laidOut : laidOutB Try.prog = true := by kernel_rfl
def shs3 : List ASh := [.one Go.Proofs.Abs.shTree, .one Go.Proofs.Abs.shTree, .agg [Go.Proofs.Abs.shSet, Go.Proofs.Abs.shRow, .int .i64]]
theorem hs3 : Try.f3.params.toList.mapM (ashp Try.prog) = some shs3 := by kernel_rfl
theorem law3 : ∀ avs, OkAs shs3 avs → ∃ n H', acall y9 n 3 [] avs [] = some (.bool true, H') := by
  intro avs h
  match avs, h with
  | [a, b, .agg [x, y, z]], h =>
    obtain ⟨ha, hb, hc, _⟩ := h
    obtain ⟨t, rfl, hw⟩ := okv_tree ha
    obtain ⟨u, rfl, hv⟩ := okv_tree hb
    have h0 := hc.2 0 _ _ rfl rfl
    have h1 := hc.2 1 _ _ rfl rfl
    have h2 := hc.2 2 _ _ rfl rfl
    obtain ⟨s, rfl, _⟩ := okv_set h0
    obtain ⟨r, rfl, _⟩ := okv_row h1
    obtain ⟨k, rfl, _⟩ := okv_i64 h2
    obtain ⟨n, hn⟩ := cwp_run (run3 t u s r k hw hv)
    exact ⟨n, _, hn⟩
theorem lifted (os : Os) (started : os.Started) (H : Type) (enc : TypeId × Value → H) :
    ReturnsInHanded {} Try.checked os 3 .any (Rows.treeTellsSpec.pre6 enc Try.prog Try.f3 Rows.treeTellsRow.domain false) (Rows.treeTellsSpec.post enc Try.prog Try.f3 false true false false) := by
  refine returnsInHanded_of_change_sized (C := Try.checked) own started (by kernel_rfl) Try.func3
    (ChangeSpec.witness6 (enc := enc) (C := Try.checked) false ⟨#[], #[.slice none 0 0, .slice none 0 0, .agg #[.slice none 0 0, .slice none 0 0, .int .i64 0]], []⟩ 8 (by kernel_rfl) (by kernel_rfl) (by kernel_rfl) (by kernel_rfl)) ?_
  intro W base args ds gs before hval hW hcnd hsz0 _
  exact law_post orders y9_ok laidOut (by decide) rfl Try.underlying4 hs3 (by kernel_rfl) law3 rfl (fun ds h => by match ds, h with | [_, _, _], _ => rfl) hval hW
theorem treeTells_holds : Rows.TreeTellsSaid :=
  OpenClaim.holds_of_wide 3 Try.f3 rfl rfl rfl rfl rfl rfl rfl ⟨rfl, rfl, rfl, rfl, rfl⟩ rfl rfl rfl rfl rfl (by kernel_rfl) Try.func3 (by kernel_rfl)
    (of_decide_eq_true (by kernel_rfl)) (by unfold Func.isWrapper; first | (rw [if_pos (by decide +kernel)]; kernel_rfl) | (rw [if_neg (by decide +kernel)]; exact ⟨rfl, rfl⟩))
    (fun os started H enc _ => lifted os started H enc)
#print axioms treeTells_holds
end Go.Proofs.Ytgcncpedpjjjeaa
