/- Proved: for any two trees and row DeriveLaws returns true and leaves its arguments as they were. Without conditions but what the card ties: the whole of the given statement. -/
import Derived.Test.YtdmnnbmjhpoipaaGreatDoorAbsGp
import Derived.Test.YtdmnnbmjhpoipaaGreatDoorAbsGc
import Derived.Test.YtdmnnbmjhpoipaaGreatDoorAbsCD
set_option linter.all false
set_option linter.constructorNameAsVariable false
set_option linter.defProp false
set_option linter.unusedVariables false
set_option linter.unusedSimpArgs false
set_option maxRecDepth 100000
namespace Go.Proofs.YtdmnnbmjhpoipaaGreatDoor
open Go Go.RowKit Go.Proofs.Abs
def shs1138 : List ASh := [.one Go.Proofs.Abs.shTree, .one Go.Proofs.Abs.shTree, .one Go.Proofs.Abs.shRow]
theorem hs1138 : Tryz.f6.params.toList.mapM (ashp Tryz.prog) = some shs1138 := by kernel_rfl
theorem law1138 : ∀ avs, OkAs shs1138 avs → ∃ n H', acall e11 n 6 [] avs [] = some (.bool true, H') := by
  intro avs h
  match avs, h with
  | [a0, a1, a2], h =>
    obtain ⟨h0, h1, h2, _⟩ := h
    obtain ⟨v0, rfl, w0⟩ := okv_tree h0
    obtain ⟨v1, rfl, w1⟩ := okv_tree h1
    obtain ⟨v2, rfl, w2⟩ := okv_row h2
    obtain ⟨n, hn⟩ := cwp_run (run1138 v0 v1 v2 w0 w1 w2)
    exact ⟨n, _, hn⟩
theorem lifted (os : Os) (started : os.Started) (H : Type) (enc : TypeId × Value → H) :
    ReturnsInHanded {} Tryz.checked os 6 .any (fun w args => (Rows.deriveLawsSpec.pre enc Tryz.prog Tryz.f6 [] false w args ∧ laidMetH Tryz.prog laids w) ∧ sizedMet enc Tryz.prog Tryz.f6 (OpenSpec.ofChange Rows.deriveLawsSpec) false w args)
      (Rows.deriveLawsSpec.post enc Tryz.prog Tryz.f6 false true false false) := by
  refine returnsInHanded_of_change_and (C := Tryz.checked) (X := fun w _ => laidMetH Tryz.prog laids w) (fun _ _ _ hh h => h.of_heap hh) own started (by kernel_rfl) Tryz.func6
    (ChangeSpec.witness_shaped (enc := enc) (C := Tryz.checked) (os := os) (X := fun w _ => laidMetH Tryz.prog laids w) false (World.doorLaid Tryz.prog 400 os) #[.slice none 0 0, .slice none 0 0, .slice none 0 0] 8 rfl (World.shaped_of_RefB (by kernel_rfl) (by kernel_rfl)) (by kernel_rfl) (by kernel_rfl) (by kernel_rfl) (door_met os _)) ?_
  intro W base args ds gs before hval0 hW _ _ hL _
  exact law_post orders e11_ok laidOut (by decide) rfl Tryz.underlying4 hs1138 (by kernel_rfl) law1138 rfl (fun ds h => by match ds, h with | [_, _, _], _ => rfl) hval0 hW (glob_of_laid hL)
theorem deriveLaws_row : Rows.DeriveLawsSaid :=
  OpenClaim.holds_of_wide 6 Tryz.f6 rfl rfl rfl rfl rfl rfl rfl ⟨rfl, rfl, rfl, rfl, rfl⟩ rfl rfl rfl rfl rfl (by kernel_rfl) Tryz.func6 (by kernel_rfl)
    (of_decide_eq_true (by kernel_rfl)) (by unfold Func.isWrapper; first | (rw [if_pos (by decide +kernel)]; kernel_rfl) | (rw [if_neg (by decide +kernel)]; exact ⟨rfl, rfl⟩))
    (fun os started H enc _ => lifted os started H enc)
theorem deriveLaws_holds : Rows.DeriveLawsCardSaid :=
  Claim7.holds_tied_plain_at .later [] [.data, .data, .data, .sentinel, .sentinel, .data] true (true, "1c338fd3ffebd1f47abc5e406f24e359fbdd747ae4ae45a30169df975391f1f7") true
    deriveLaws_row (fun _ h => by cases h) (by kernel_rfl) (fun _ h => by cases h) deriveLaws_row_tie rfl ⟨rfl, rfl⟩ (by kernel_rfl) rfl
    (fun f fn hf hfn => by
      obtain rfl : f = 6 := Option.some.inj ((show Tryz.prog.funcNamed Rows.deriveLawsRow.func = some 6 by kernel_rfl).symm.trans hf) |>.symm
      obtain rfl : fn = Tryz.f6 := (Option.some.inj (Tryz.func6.symm.trans hfn)).symm
      exact ⟨by kernel_rfl, fun j t ht => by
        have hm : t ∈ Tryz.f6.params.toList := by simpa using Array.mem_of_getElem? ht
        have hall : (Tryz.f6.params.toList.all fun u => !Tryz.prog.wantsStandIn u) = true := by kernel_rfl
        exact (show Tryz.prog.wantsStandIn t = false by simpa using List.all_eq_true.1 hall t hm)⟩)
    (by kernel_rfl)
#print axioms deriveLaws_holds
end Go.Proofs.YtdmnnbmjhpoipaaGreatDoor
