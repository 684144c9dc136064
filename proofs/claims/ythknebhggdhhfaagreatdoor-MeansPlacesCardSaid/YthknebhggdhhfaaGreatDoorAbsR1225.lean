/- Proved: the list of breaks is the places at which there is one, and without rules it is all of them, or none. Without conditions but what the card ties: the whole of the given statement. -/
import Derived.Test.YthknebhggdhhfaaGreatDoorAbsGm
import Derived.Test.YthknebhggdhhfaaGreatDoorAbsGc
import Derived.Test.YthknebhggdhhfaaGreatDoorAbsCD
set_option linter.all false
set_option linter.constructorNameAsVariable false
set_option linter.defProp false
set_option linter.unusedVariables false
set_option linter.unusedSimpArgs false
set_option maxRecDepth 100000
namespace Go.Proofs.YthknebhggdhhfaaGreatDoor
open Go Go.RowKit Go.Proofs.Abs
def shs1225 : List ASh := [Go.Proofs.Abs.shRules, .one Go.Proofs.Abs.shRow]
theorem hs1225 : Tryz.f7.params.toList.mapM (ashp Tryz.prog) = some shs1225 := by kernel_rfl
theorem law1225 : ∀ avs, OkAs shs1225 avs → ∃ n H', acall o4 n 7 [] avs [] = some (.bool true, H') := by
  intro avs h
  match avs, h with
  | [a0, a1], h =>
    obtain ⟨h0, h1, _⟩ := h
    obtain ⟨v0, rfl, w0⟩ := okv_rules h0
    obtain ⟨v1, rfl, w1⟩ := okv_row h1
    obtain ⟨n, hn⟩ := cwp_run (run1225 v0 v1 w0 w1)
    exact ⟨n, _, hn⟩
theorem lifted (os : Os) (started : os.Started) (H : Type) (enc : TypeId × Value → H) :
    ReturnsInHanded {} Tryz.checked os 7 .any (fun w args => (Rows.meansPlacesSpec.pre enc Tryz.prog Tryz.f7 [] false w args ∧ laidMetH Tryz.prog laids w) ∧ sizedMet enc Tryz.prog Tryz.f7 (OpenSpec.ofChange Rows.meansPlacesSpec) false w args)
      (Rows.meansPlacesSpec.post enc Tryz.prog Tryz.f7 false true false false) := by
  refine returnsInHanded_of_change_and (C := Tryz.checked) (X := fun w _ => laidMetH Tryz.prog laids w) (fun _ _ _ hh h => h.of_heap hh) own started (by kernel_rfl) Tryz.func7
    (ChangeSpec.witness_shaped (enc := enc) (C := Tryz.checked) (os := os) (X := fun w _ => laidMetH Tryz.prog laids w) false (World.doorLaid Tryz.prog 400 os) #[.agg #[.slice none 0 0, .slice none 0 0, .bool false], .slice none 0 0] 8 rfl (World.shaped_of_RefB (by kernel_rfl) (by kernel_rfl)) (by kernel_rfl) (by kernel_rfl) (by kernel_rfl) (door_met os _)) ?_
  intro W base args ds gs before hval0 hW _ _ hL _
  exact law_post orders o4_ok laidOut (by decide) rfl Tryz.underlying4 hs1225 (by kernel_rfl) law1225 rfl (fun ds h => by match ds, h with | [_, _], _ => rfl) hval0 hW (glob_of_laid hL)
theorem meansPlaces_row : Rows.MeansPlacesSaid :=
  OpenClaim.holds_of_wide 7 Tryz.f7 rfl rfl rfl rfl rfl rfl rfl ⟨rfl, rfl, rfl, rfl, rfl⟩ rfl rfl rfl rfl rfl (by kernel_rfl) Tryz.func7 (by kernel_rfl)
    (of_decide_eq_true (by kernel_rfl)) (by unfold Func.isWrapper; first | (rw [if_pos (by decide +kernel)]; kernel_rfl) | (rw [if_neg (by decide +kernel)]; exact ⟨rfl, rfl⟩))
    (fun os started H enc _ => lifted os started H enc)
theorem meansPlaces_holds : Rows.MeansPlacesCardSaid :=
  Claim7.holds_tied_plain_at .later [] [.data, .data, .data, .sentinel, .sentinel, .data, .widerDeep] true (true, "03d7397dacbe151c6901ac7fb37ca6eae1c800cb50ae4ba58010bb387b9ed773") true
    meansPlaces_row (fun _ h => by cases h) (by kernel_rfl) (fun _ h => by cases h) meansPlaces_row_tie rfl ⟨rfl, rfl⟩ (by kernel_rfl) rfl
    (fun f fn hf hfn => by
      obtain rfl : f = 7 := Option.some.inj ((show Tryz.prog.funcNamed Rows.meansPlacesRow.func = some 7 by kernel_rfl).symm.trans hf) |>.symm
      obtain rfl : fn = Tryz.f7 := (Option.some.inj (Tryz.func7.symm.trans hfn)).symm
      exact ⟨by kernel_rfl, fun j t ht => by
        have hm : t ∈ Tryz.f7.params.toList := by simpa using Array.mem_of_getElem? ht
        have hall : (Tryz.f7.params.toList.all fun u => !Tryz.prog.wantsStandIn u) = true := by kernel_rfl
        exact (show Tryz.prog.wantsStandIn t = false by simpa using List.all_eq_true.1 hall t hm)⟩)
    (by kernel_rfl)
#print axioms meansPlaces_holds
end Go.Proofs.YthknebhggdhhfaaGreatDoor
