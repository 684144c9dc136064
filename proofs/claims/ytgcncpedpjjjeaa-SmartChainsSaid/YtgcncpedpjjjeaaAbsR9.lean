/- Proved: for every three trees SmartChains returns true and leaves its arguments as they were. Without conditions: the whole of the given statement. -/
import Derived.Test.YtgcncpedpjjjeaaAbsL9
import Derived.Test.YtgcncpedpjjjeaaAbsB
import Derived.Test.YtgcncpedpjjjeaaRows
import Derived.ProofKit
set_option linter.all false
set_option linter.constructorNameAsVariable false
set_option linter.defProp false
set_option linter.unusedVariables false
set_option linter.unusedSimpArgs false
set_option maxRecDepth 100000
namespace Go.Proofs.Ytgcncpedpjjjeaa
open Go Go.RowKit Go.Proofs.Abs
theorem own : ownKnob Try.prog.godebug = none := by kernel_rfl
theorem laidOut : laidOutB Try.prog = true := by kernel_rfl
def shs9 : List ASh := [.one Go.Proofs.Abs.shTree, .one Go.Proofs.Abs.shTree, .one Go.Proofs.Abs.shTree]
theorem hs9 : Try.f9.params.toList.mapM (ashp Try.prog) = some shs9 := by kernel_rfl
theorem law9 : ∀ avs, OkAs shs9 avs → ∃ n H', acall q9 n 9 [] avs [] = some (.bool true, H') := by
  intro avs h
  match avs, h with
  | [a0, a1, a2], h =>
    obtain ⟨h0, h1, h2, _⟩ := h
    obtain ⟨v0, rfl, w0⟩ := okv_tree h0
    obtain ⟨v1, rfl, w1⟩ := okv_tree h1
    obtain ⟨v2, rfl, w2⟩ := okv_tree h2
    obtain ⟨n, hn⟩ := cwp_run (run9 v0 v1 v2 w0 w1 w2)
    exact ⟨n, _, hn⟩
theorem lifted (os : Os) (started : os.Started) (H : Type) (enc : TypeId × Value → H) :
    ReturnsInHanded {} Try.checked os 9 .any (Rows.smartChainsSpec.pre6 enc Try.prog Try.f9 Rows.smartChainsRow.domain false) (Rows.smartChainsSpec.post enc Try.prog Try.f9 false true false false) := by
  refine returnsInHanded_of_change_sized (C := Try.checked) own started (by kernel_rfl) Try.func9
    (ChangeSpec.witness6 (enc := enc) (C := Try.checked) false ⟨#[], #[.slice none 0 0, .slice none 0 0, .slice none 0 0], []⟩ 8 (by kernel_rfl) (by kernel_rfl) (by kernel_rfl) (by kernel_rfl)) ?_
  intro W base args ds gs before hval hW hcnd hsz0 _
  exact law_post orders q9_ok laidOut (by decide) rfl Try.underlying4 hs9 (by kernel_rfl) law9 rfl (fun ds h => by match ds, h with | [_, _, _], _ => rfl) hval hW
theorem smartChains_holds : Rows.SmartChainsSaid :=
  OpenClaim.holds_of_wide 9 Try.f9 rfl rfl rfl rfl rfl rfl rfl ⟨rfl, rfl, rfl, rfl, rfl⟩ rfl rfl rfl rfl rfl (by kernel_rfl) Try.func9 (by kernel_rfl)
    (of_decide_eq_true (by kernel_rfl)) (by unfold Func.isWrapper; first | (rw [if_pos (by decide +kernel)]; kernel_rfl) | (rw [if_neg (by decide +kernel)]; exact ⟨rfl, rfl⟩))
    (fun os started H enc _ => lifted os started H enc)
#print axioms smartChains_holds
end Go.Proofs.Ytgcncpedpjjjeaa
