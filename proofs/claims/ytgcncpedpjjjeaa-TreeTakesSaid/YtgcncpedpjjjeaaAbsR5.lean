/- Proved: for every two trees and every row TreeTakes returns true and leaves its arguments as they were. Without conditions: the whole of the given statement. -/
import Derived.Test.YtgcncpedpjjjeaaAbsL5
import Derived.Test.YtgcncpedpjjjeaaAbs22
import Derived.Test.YtgcncpedpjjjeaaRows
import Derived.ProofKit
set_option linter.all false
set_option linter.constructorNameAsVariable false
set_option linter.defProp false
set_option linter.unusedVariables false
set_option linter.unusedSimpArgs false
set_option maxRecDepth 100000
namespace Go.Proofs.Ytgcncpedpjjjeaa
open Go Go.RowKit Go.Proofs.Abs
theorem own : ownKnob Try.prog.godebug = none := by kernel_rfl
theorem laidOut : laidOutB Try.prog = true := by kernel_rfl
def shs5 : List ASh := [.one Go.Proofs.Abs.shTree, .one Go.Proofs.Abs.shTree, .one Go.Proofs.Abs.shRow]
theorem hs5 : Try.f5.params.toList.mapM (ashp Try.prog) = some shs5 := by kernel_rfl
theorem law5 : ∀ avs, OkAs shs5 avs → ∃ n H', acall w1 n 5 [] avs [] = some (.bool true, H') := by
  intro avs h
  match avs, h with
  | [a, b, c], h =>
    obtain ⟨ha, hb, hc, _⟩ := h
    obtain ⟨t, rfl, hw⟩ := okv_tree ha
    obtain ⟨u, rfl, hv⟩ := okv_tree hb
    obtain ⟨l, rfl, hl, _⟩ := okv_row hc
    obtain ⟨n, hn⟩ := cwp_run (run5 t u l hw hv hl)
    exact ⟨n, _, hn⟩
theorem lifted (os : Os) (started : os.Started) (H : Type) (enc : TypeId × Value → H) :
    ReturnsInHanded {} Try.checked os 5 .any (Rows.treeTakesSpec.pre6 enc Try.prog Try.f5 Rows.treeTakesRow.domain false) (Rows.treeTakesSpec.post enc Try.prog Try.f5 false true false false) := by
  refine returnsInHanded_of_change_sized (C := Try.checked) own started (by kernel_rfl) Try.func5
    (ChangeSpec.witness6 (enc := enc) (C := Try.checked) false ⟨#[], #[.slice none 0 0, .slice none 0 0, .slice none 0 0], []⟩ 8 (by kernel_rfl) (by kernel_rfl) (by kernel_rfl) (by kernel_rfl)) ?_
  intro W base args ds gs before hval hW hcnd hsz0 _
  exact law_post orders w1_ok laidOut (by decide) rfl Try.underlying4 hs5 (by kernel_rfl) law5 rfl (fun ds h => by match ds, h with | [_, _, _], _ => rfl) hval hW
theorem treeTakes_holds : Rows.TreeTakesSaid :=
  OpenClaim.holds_of_wide 5 Try.f5 rfl rfl rfl rfl rfl rfl rfl ⟨rfl, rfl, rfl, rfl, rfl⟩ rfl rfl rfl rfl rfl (by kernel_rfl) Try.func5 (by kernel_rfl)
    (of_decide_eq_true (by kernel_rfl)) (by unfold Func.isWrapper; first | (rw [if_pos (by decide +kernel)]; kernel_rfl) | (rw [if_neg (by decide +kernel)]; exact ⟨rfl, rfl⟩))
    (fun os started H enc _ => lifted os started H enc)
#print axioms treeTakes_holds
end Go.Proofs.Ytgcncpedpjjjeaa
