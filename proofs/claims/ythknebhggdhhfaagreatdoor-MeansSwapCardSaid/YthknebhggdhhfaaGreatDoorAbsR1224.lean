/- Proved: two rules side by side that say the same may change their places, and with every mark and what else is told turned round each place is turned round. Without conditions but what the card ties: the whole of the given statement. -/
import Derived.Test.YthknebhggdhhfaaGreatDoorAbsGo
import Derived.Test.YthknebhggdhhfaaGreatDoorAbsGc
import Derived.Test.YthknebhggdhhfaaGreatDoorAbsCD
set_option linter.all false
set_option linter.constructorNameAsVariable false
set_option linter.defProp false
set_option linter.unusedVariables false
set_option linter.unusedSimpArgs false
set_option maxRecDepth 100000
namespace Go.Proofs.YthknebhggdhhfaaGreatDoor
open Go Go.RowKit Go.Proofs.Abs
def shs1224 : List ASh := [Go.Proofs.Abs.shRules, .one Go.Proofs.Abs.shRow, .one (.int .u8)]
theorem hs1224 : Tryz.f6.params.toList.mapM (ashp Tryz.prog) = some shs1224 := by kernel_rfl
theorem law1224 : ∀ avs, OkAs shs1224 avs → ∃ n H', acall o4 n 6 [] avs [] = some (.bool true, H') := by
  intro avs h
  match avs, h with
  | [a0, a1, a2], h =>
    obtain ⟨h0, h1, h2, _⟩ := h
    obtain ⟨v0, rfl, w0⟩ := okv_rules h0
    obtain ⟨v1, rfl, w1⟩ := okv_row h1
    obtain ⟨v2, rfl, w2⟩ := okv_u8 h2
    obtain ⟨n, hn⟩ := cwp_run (run1224 v0 v1 v2 w0 w1 w2)
    exact ⟨n, _, hn⟩
theorem lifted (os : Os) (started : os.Started) (H : Type) (enc : TypeId × Value → H) :
    ReturnsInHanded {} Tryz.checked os 6 .any (fun w args => (Rows.meansSwapSpec.pre enc Tryz.prog Tryz.f6 [] false w args ∧ laidMetH Tryz.prog laids w) ∧ sizedMet enc Tryz.prog Tryz.f6 (OpenSpec.ofChange Rows.meansSwapSpec) false w args)
      (Rows.meansSwapSpec.post enc Tryz.prog Tryz.f6 false true false false) := by
  refine returnsInHanded_of_change_and (C := Tryz.checked) (X := fun w _ => laidMetH Tryz.prog laids w) (fun _ _ _ hh h => h.of_heap hh) own started (by kernel_rfl) Tryz.func6
    (ChangeSpec.witness_shaped (enc := enc) (C := Tryz.checked) (os := os) (X := fun w _ => laidMetH Tryz.prog laids w) false (World.doorLaid Tryz.prog 400 os) #[.agg #[.slice none 0 0, .slice none 0 0, .bool false], .slice none 0 0, .int .u8 0] 8 rfl (World.shaped_of_RefB (by kernel_rfl) (by kernel_rfl)) (by kernel_rfl) (by kernel_rfl) (by kernel_rfl) (door_met os _)) ?_
  intro W base args ds gs before hval0 hW _ _ hL _
  exact law_post orders o4_ok laidOut (by decide) rfl Tryz.underlying4 hs1224 (by kernel_rfl) law1224 rfl (fun ds h => by match ds, h with | [_, _, _], _ => rfl) hval0 hW (glob_of_laid hL)
theorem meansSwap_row : Rows.MeansSwapSaid :=
  OpenClaim.holds_of_wide 6 Tryz.f6 rfl rfl rfl rfl rfl rfl rfl ⟨rfl, rfl, rfl, rfl, rfl⟩ rfl rfl rfl rfl rfl (by kernel_rfl) Tryz.func6 (by kernel_rfl)
    (of_decide_eq_true (by kernel_rfl)) (by unfold Func.isWrapper; first | (rw [if_pos (by decide +kernel)]; kernel_rfl) | (rw [if_neg (by decide +kernel)]; exact ⟨rfl, rfl⟩))
    (fun os started H enc _ => lifted os started H enc)
theorem meansSwap_holds : Rows.MeansSwapCardSaid :=
  Claim7.holds_tied_plain_at .later [] [.data, .data, .data, .sentinel, .sentinel, .data, .widerDeep] true (true, "03d7397dacbe151c6901ac7fb37ca6eae1c800cb50ae4ba58010bb387b9ed773") true
    meansSwap_row (fun _ h => by cases h) (by kernel_rfl) (fun _ h => by cases h) meansSwap_row_tie rfl ⟨rfl, rfl⟩ (by kernel_rfl) rfl
    (fun f fn hf hfn => by
      obtain rfl : f = 6 := Option.some.inj ((show Tryz.prog.funcNamed Rows.meansSwapRow.func = some 6 by kernel_rfl).symm.trans hf) |>.symm
      obtain rfl : fn = Tryz.f6 := (Option.some.inj (Tryz.func6.symm.trans hfn)).symm
      exact ⟨by kernel_rfl, fun j t ht => by
        have hm : t ∈ Tryz.f6.params.toList := by simpa using Array.mem_of_getElem? ht
        have hall : (Tryz.f6.params.toList.all fun u => !Tryz.prog.wantsStandIn u) = true := by kernel_rfl
        exact (show Tryz.prog.wantsStandIn t = false by simpa using List.all_eq_true.1 hall t hm)⟩)
    (by kernel_rfl)
#print axioms meansSwap_holds
end Go.Proofs.YthknebhggdhhfaaGreatDoor
