/- Proved: for every two sets and every list of numbers SetsHold returns true and leaves its arguments as they were. Without conditions: the whole of the given statement. -/
import Derived.Test.YtgcncpedpjjjeaaAbsY11
import Derived.Test.YtgcncpedpjjjeaaAbsB
import Derived.Test.YtgcncpedpjjjeaaRows
import Derived.ProofKit
set_option linter.all false
set_option linter.constructorNameAsVariable false
set_option linter.defProp false
set_option linter.unusedVariables false
set_option linter.unusedSimpArgs false
set_option maxRecDepth 100000
namespace Go.Proofs.Ytgcncpedpjjjeaa
open Go Go.RowKit Go.Proofs.Abs
theorem own : ownKnob Try.prog.godebug = none := by kernel_rfl
theorem laidOut : laidOutB Try.prog = true := by kernel_rfl
def shs12 : List ASh := [.one Go.Proofs.Abs.shSet, .one Go.Proofs.Abs.shSet, .one Go.Proofs.Abs.shRow]
theorem hs12 : Try.f12.params.toList.mapM (ashp Try.prog) = some shs12 := by kernel_rfl
theorem law12 : ∀ avs, OkAs shs12 avs → ∃ n H', acall s6 n 12 [] avs [] = some (.bool true, H') := by
  intro avs h
  match avs, h with
  | [a0, a1, a2], h =>
    obtain ⟨h0, h1, h2, _⟩ := h
    obtain ⟨v0, rfl, w0⟩ := okv_set h0
    obtain ⟨v1, rfl, w1⟩ := okv_set h1
    obtain ⟨v2, rfl, w2⟩ := okv_row h2
    obtain ⟨n, hn⟩ := cwp_run (run12 v0 v1 v2 w0 w1 w2.1)
    exact ⟨n, _, hn⟩
theorem lifted (os : Os) (started : os.Started) (H : Type) (enc : TypeId × Value → H) :
    ReturnsInHanded {} Try.checked os 12 .any (Rows.setsHoldSpec.pre6 enc Try.prog Try.f12 Rows.setsHoldRow.domain false) (Rows.setsHoldSpec.post enc Try.prog Try.f12 false true false false) := by
  refine returnsInHanded_of_change_sized (C := Try.checked) own started (by kernel_rfl) Try.func12
    (ChangeSpec.witness6 (enc := enc) (C := Try.checked) false ⟨#[], #[.slice none 0 0, .slice none 0 0, .slice none 0 0], []⟩ 8 (by kernel_rfl) (by kernel_rfl) (by kernel_rfl) (by kernel_rfl)) ?_
  intro W base args ds gs before hval hW hcnd hsz0 _
  exact law_post orders s6_ok laidOut (by decide) rfl Try.underlying4 hs12 (by kernel_rfl) law12 rfl (fun ds h => by match ds, h with | [_, _, _], _ => rfl) hval hW
theorem setsHold_holds : Rows.SetsHoldSaid :=
  OpenClaim.holds_of_wide 12 Try.f12 rfl rfl rfl rfl rfl rfl rfl ⟨rfl, rfl, rfl, rfl, rfl⟩ rfl rfl rfl rfl rfl (by kernel_rfl) Try.func12 (by kernel_rfl)
    (of_decide_eq_true (by kernel_rfl)) (by unfold Func.isWrapper; first | (rw [if_pos (by decide +kernel)]; kernel_rfl) | (rw [if_neg (by decide +kernel)]; exact ⟨rfl, rfl⟩))
    (fun os started H enc _ => lifted os started H enc)
#print axioms setsHold_holds
end Go.Proofs.Ytgcncpedpjjjeaa
