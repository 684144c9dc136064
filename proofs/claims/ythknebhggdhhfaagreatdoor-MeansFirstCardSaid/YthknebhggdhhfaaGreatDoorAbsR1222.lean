/- Proved: at each place there is a break just as the first rule says that tells of it, which it does just if the row up to it can be split between its two trees; a place is told by what stands ahead of it alone. Without conditions but what the card ties: the whole of the given statement. -/
import Derived.Test.YthknebhggdhhfaaGreatDoorAbsGn
import Derived.Test.YthknebhggdhhfaaGreatDoorAbsGc
import Derived.Test.YthknebhggdhhfaaGreatDoorAbsCD
set_option linter.all false
set_option linter.constructorNameAsVariable false
set_option linter.defProp false
set_option linter.unusedVariables false
set_option linter.unusedSimpArgs false
set_option maxRecDepth 100000
namespace Go.Proofs.YthknebhggdhhfaaGreatDoor
open Go Go.RowKit Go.Proofs.Abs
def shs1222 : List ASh := [Go.Proofs.Abs.shRules, .one Go.Proofs.Abs.shRow, .one Go.Proofs.Abs.shRow]
theorem hs1222 : Tryz.f4.params.toList.mapM (ashp Tryz.prog) = some shs1222 := by kernel_rfl
theorem law1222 : ∀ avs, OkAs shs1222 avs → ∃ n H', acall o4 n 4 [] avs [] = some (.bool true, H') := by
  intro avs h
  match avs, h with
  | [a0, a1, a2], h =>
    obtain ⟨h0, h1, h2, _⟩ := h
    obtain ⟨v0, rfl, w0⟩ := okv_rules h0
    obtain ⟨v1, rfl, w1⟩ := okv_row h1
    obtain ⟨v2, rfl, w2⟩ := okv_row h2
    obtain ⟨n, hn⟩ := cwp_run (run1222 v0 v1 v2 w0 w1 w2)
    exact ⟨n, _, hn⟩
theorem lifted (os : Os) (started : os.Started) (H : Type) (enc : TypeId × Value → H) :
    ReturnsInHanded {} Tryz.checked os 4 .any (fun w args => (Rows.meansFirstSpec.pre enc Tryz.prog Tryz.f4 [] false w args ∧ laidMetH Tryz.prog laids w) ∧ sizedMet enc Tryz.prog Tryz.f4 (OpenSpec.ofChange Rows.meansFirstSpec) false w args)
      (Rows.meansFirstSpec.post enc Tryz.prog Tryz.f4 false true false false) := by
  refine returnsInHanded_of_change_and (C := Tryz.checked) (X := fun w _ => laidMetH Tryz.prog laids w) (fun _ _ _ hh h => h.of_heap hh) own started (by kernel_rfl) Tryz.func4
    (ChangeSpec.witness_shaped (enc := enc) (C := Tryz.checked) (os := os) (X := fun w _ => laidMetH Tryz.prog laids w) false (World.doorLaid Tryz.prog 400 os) #[.agg #[.slice none 0 0, .slice none 0 0, .bool false], .slice none 0 0, .slice none 0 0] 8 rfl (World.shaped_of_RefB (by kernel_rfl) (by kernel_rfl)) (by kernel_rfl) (by kernel_rfl) (by kernel_rfl) (door_met os _)) ?_
  intro W base args ds gs before hval0 hW _ _ hL _
  exact law_post orders o4_ok laidOut (by decide) rfl Tryz.underlying4 hs1222 (by kernel_rfl) law1222 rfl (fun ds h => by match ds, h with | [_, _, _], _ => rfl) hval0 hW (glob_of_laid hL)
theorem meansFirst_row : Rows.MeansFirstSaid :=
  OpenClaim.holds_of_wide 4 Tryz.f4 rfl rfl rfl rfl rfl rfl rfl ⟨rfl, rfl, rfl, rfl, rfl⟩ rfl rfl rfl rfl rfl (by kernel_rfl) Tryz.func4 (by kernel_rfl)
    (of_decide_eq_true (by kernel_rfl)) (by unfold Func.isWrapper; first | (rw [if_pos (by decide +kernel)]; kernel_rfl) | (rw [if_neg (by decide +kernel)]; exact ⟨rfl, rfl⟩))
    (fun os started H enc _ => lifted os started H enc)
theorem meansFirst_holds : Rows.MeansFirstCardSaid :=
  Claim7.holds_tied_plain_at .later [] [.data, .data, .data, .sentinel, .sentinel, .data, .widerDeep] true (true, "03d7397dacbe151c6901ac7fb37ca6eae1c800cb50ae4ba58010bb387b9ed773") true
    meansFirst_row (fun _ h => by cases h) (by kernel_rfl) (fun _ h => by cases h) meansFirst_row_tie rfl ⟨rfl, rfl⟩ (by kernel_rfl) rfl
    (fun f fn hf hfn => by
      obtain rfl : f = 4 := Option.some.inj ((show Tryz.prog.funcNamed Rows.meansFirstRow.func = some 4 by kernel_rfl).symm.trans hf) |>.symm
      obtain rfl : fn = Tryz.f4 := (Option.some.inj (Tryz.func4.symm.trans hfn)).symm
      exact ⟨by kernel_rfl, fun j t ht => by
        have hm : t ∈ Tryz.f4.params.toList := by simpa using Array.mem_of_getElem? ht
        have hall : (Tryz.f4.params.toList.all fun u => !Tryz.prog.wantsStandIn u) = true := by kernel_rfl
        exact (show Tryz.prog.wantsStandIn t = false by simpa using List.all_eq_true.1 hall t hm)⟩)
    (by kernel_rfl)
#print axioms meansFirst_holds
end Go.Proofs.YthknebhggdhhfaaGreatDoor
