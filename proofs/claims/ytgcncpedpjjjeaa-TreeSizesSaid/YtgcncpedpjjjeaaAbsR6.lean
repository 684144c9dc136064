/- Proved: for every tree and every number TreeSizes returns true and leaves its arguments as they were. Without conditions: the whole of the given statement. -/
import Derived.Test.YtgcncpedpjjjeaaAbsL6
import Derived.Test.YtgcncpedpjjjeaaAbs22
import Derived.Test.YtgcncpedpjjjeaaRows
import Derived.ProofKit
set_option linter.all false
set_option linter.constructorNameAsVariable false
set_option linter.defProp false
set_option linter.unusedVariables false
set_option linter.unusedSimpArgs false
set_option maxRecDepth 100000
namespace Go.Proofs.Ytgcncpedpjjjeaa
open Go Go.RowKit Go.Proofs.Abs
theorem own : ownKnob Try.prog.godebug = none := by kernel_rfl
theorem laidOut : laidOutB Try.prog = true := by kernel_rfl
def shs6 : List ASh := [.one Go.Proofs.Abs.shTree, .one (.int .u16)]
theorem hs6 : Try.f6.params.toList.mapM (ashp Try.prog) = some shs6 := by kernel_rfl
theorem wf_u16 {n : Int} (h : (Lit.int .u16 n).wf = true) : 0 ≤ n ∧ n ≤ 65535 := by
  simp only [Lit.wf, Bool.and_eq_true, decide_eq_true_eq] at h
  have h1 : IntKind.u16.min = 0 := rfl
  have h2 : IntKind.u16.max = 65535 := rfl
  rw [h1, h2] at h
  exact h
theorem law6 : ∀ avs, OkAs shs6 avs → ∃ n H', acall t8 n 6 [] avs [] = some (.bool true, H') := by
  intro avs h
  match avs, h with
  | [a, b], h =>
    obtain ⟨ha, hb, _⟩ := h
    obtain ⟨t, rfl, hw⟩ := okv_tree ha
    unfold Oka at hb
    cases hb with
    | int _ n hn =>
      obtain ⟨h1, h2⟩ := wf_u16 hn
      obtain ⟨m, rfl⟩ : ∃ m : Nat, n = (m : Int) := ⟨n.toNat, by omega⟩
      obtain ⟨n, hn⟩ := cwp_run (run6 t hw m (by omega))
      exact ⟨n, _, hn⟩
theorem lifted (os : Os) (started : os.Started) (H : Type) (enc : TypeId × Value → H) :
    ReturnsInHanded {} Try.checked os 6 .any (Rows.treeSizesSpec.pre6 enc Try.prog Try.f6 Rows.treeSizesRow.domain false) (Rows.treeSizesSpec.post enc Try.prog Try.f6 false true false false) := by
  refine returnsInHanded_of_change_sized (C := Try.checked) own started (by kernel_rfl) Try.func6
    (ChangeSpec.witness6 (enc := enc) (C := Try.checked) false ⟨#[], #[.slice none 0 0, .int .u16 0], []⟩ 8 (by kernel_rfl) (by kernel_rfl) (by kernel_rfl) (by kernel_rfl)) ?_
  intro W base args ds gs before hval hW hcnd hsz0 _
  exact law_post orders t8_ok laidOut (by decide) rfl Try.underlying4 hs6 (by kernel_rfl) law6 rfl (fun ds h => by match ds, h with | [_, _], _ => rfl) hval hW
theorem treeSizes_holds : Rows.TreeSizesSaid :=
  OpenClaim.holds_of_wide 6 Try.f6 rfl rfl rfl rfl rfl rfl rfl ⟨rfl, rfl, rfl, rfl, rfl⟩ rfl rfl rfl rfl rfl (by kernel_rfl) Try.func6 (by kernel_rfl)
    (of_decide_eq_true (by kernel_rfl)) (by unfold Func.isWrapper; first | (rw [if_pos (by decide +kernel)]; kernel_rfl) | (rw [if_neg (by decide +kernel)]; exact ⟨rfl, rfl⟩))
    (fun os started H enc _ => lifted os started H enc)
#print axioms treeSizes_holds
end Go.Proofs.Ytgcncpedpjjjeaa
