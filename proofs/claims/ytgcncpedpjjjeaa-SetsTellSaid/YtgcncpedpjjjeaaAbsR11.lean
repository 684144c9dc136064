/- Proved: for every two sets and every number SetsTell returns true and leaves its arguments as they were. Without conditions: the whole of the given statement. -/
import Derived.Test.YtgcncpedpjjjeaaAbsY22
import Derived.Test.YtgcncpedpjjjeaaAbsB
import Derived.Test.YtgcncpedpjjjeaaRows
import Derived.ProofKit
set_option linter.all false
set_option linter.constructorNameAsVariable false
set_option linter.defProp false
set_option linter.unusedVariables false
set_option linter.unusedSimpArgs false
set_option maxRecDepth 100000
namespace Go.Proofs.Ytgcncpedpjjjeaa
open Go Go.RowKit Go.Proofs.Abs
theorem own : ownKnob Try.prog.godebug = none := by kernel_rfl
theorem laidOut : laidOutB Try.prog = true := by kernel_rfl
def shs11 : List ASh := [.one Go.Proofs.Abs.shSet, .one Go.Proofs.Abs.shSet, .one (.int .i64)]
theorem hs11 : Try.f11.params.toList.mapM (ashp Try.prog) = some shs11 := by kernel_rfl
theorem law11 : ∀ avs, OkAs shs11 avs → ∃ n H', acall s14 n 11 [] avs [] = some (.bool true, H') := by
  intro avs h
  match avs, h with
  | [a0, a1, a2], h =>
    obtain ⟨h0, h1, h2, _⟩ := h
    obtain ⟨v0, rfl, w0⟩ := okv_set h0
    obtain ⟨v1, rfl, w1⟩ := okv_set h1
    obtain ⟨v2, rfl, w2⟩ := okv_i64 h2
    obtain ⟨n, hn⟩ := cwp_run (run11 v0 v1 v2 w0 w1 w2)
    exact ⟨n, _, hn⟩
theorem lifted (os : Os) (started : os.Started) (H : Type) (enc : TypeId × Value → H) :
    ReturnsInHanded {} Try.checked os 11 .any (Rows.setsTellSpec.pre6 enc Try.prog Try.f11 Rows.setsTellRow.domain false) (Rows.setsTellSpec.post enc Try.prog Try.f11 false true false false) := by
  refine returnsInHanded_of_change_sized (C := Try.checked) own started (by kernel_rfl) Try.func11
    (ChangeSpec.witness6 (enc := enc) (C := Try.checked) false ⟨#[], #[.slice none 0 0, .slice none 0 0, .int .i64 0], []⟩ 8 (by kernel_rfl) (by kernel_rfl) (by kernel_rfl) (by kernel_rfl)) ?_
  intro W base args ds gs before hval hW hcnd hsz0 _
  exact law_post orders s14_ok laidOut (by decide) rfl Try.underlying4 hs11 (by kernel_rfl) law11 rfl (fun ds h => by match ds, h with | [_, _, _], _ => rfl) hval hW
theorem setsTell_holds : Rows.SetsTellSaid :=
  OpenClaim.holds_of_wide 11 Try.f11 rfl rfl rfl rfl rfl rfl rfl ⟨rfl, rfl, rfl, rfl, rfl⟩ rfl rfl rfl rfl rfl (by kernel_rfl) Try.func11 (by kernel_rfl)
    (of_decide_eq_true (by kernel_rfl)) (by unfold Func.isWrapper; first | (rw [if_pos (by decide +kernel)]; kernel_rfl) | (rw [if_neg (by decide +kernel)]; exact ⟨rfl, rfl⟩))
    (fun os started H enc _ => lifted os started H enc)
#print axioms setsTell_holds
end Go.Proofs.Ytgcncpedpjjjeaa
