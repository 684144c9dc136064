/- A part of a proof: the text that states the row tells what is proved. No condition is laid on anything. -/
import Derived.Test.YtgcncpedpjjjeaaAbsE6
set_option linter.all false
set_option linter.constructorNameAsVariable false
set_option linter.defProp false
set_option linter.unusedVariables false
set_option linter.unusedSimpArgs false
set_option maxRecDepth 1000000
namespace Go.Proofs.Abs
open Go
/-! 17: caesuralaw11.wakes, by running it. -/
theorem w17 : ((acall ft 300 17 [] [] []).map fun r => beqA r.1 (.bool true) && beqH r.2 []) = some true := by decide +kernel
theorem go17 : ∃ n, acall ft n 17 [] [] [] = some (.bool true, []) := by
  have h := w17
  refine ⟨300, ?_⟩
  cases e : acall ft 300 17 [] [] [] with
  | none => rw [e] at h; cases h
  | some r =>
    obtain ⟨v, H⟩ := r
    rw [e] at h
    simp only [Option.map_some, Option.some.injEq, Bool.and_eq_true] at h
    rw [beqA_eq h.1, beqH_eq h.2]
noncomputable def o17 : Id → List AV → Heap → Option (AV × Heap) := oraF (fun (_ : Unit) => True) (fun _ => []) (fun _ => .bool true)
theorem cg17 {ft : FT} (h : ft 17 = some (.ora o17)) (q0 : Id) (H0 : Heap) (d0 : Option Nat) (r0 : List AIn) (k0 : Nat) (dr0 : List Nat) (ks0 : List Kt) (Q0 : Fin) (s0 : St) : cg ft 17 q0 [] H0 d0 r0 k0 dr0 ks0 Q0 s0 = rg ft r0 k0 dr0 ks0 Q0 { s0 with env := putd s0.env d0 (.bool true), heap := H0, k := s0.k + 1 } :=
  cg_has (dom := fun (_ : Unit) => True) (enc := fun _ => []) (out := fun _ => .bool true) (a := ()) h (fun _ _ _ => rfl) trivial q0 H0 d0 r0 k0 dr0 ks0 Q0 s0
theorem dcg17 {ft : FT} (h : ft 17 = some (.ora o17)) (q0 : Id) (H0 : Heap) (i0 : AIn) (r0 : List AIn) (k0 : Nat) (l0 : List Rec) (dr0 : List Nat) (ks0 : List Kt) (Q0 : Fin) (s0 : St) : dcg ft 17 q0 [] H0 i0 r0 k0 l0 dr0 ks0 Q0 s0 = dn ft (dnext (clsOf i0.i s0.env) (.bool true) s0 { s0 with heap := H0, k := s0.k + 1 }) i0 r0 k0 l0 dr0 ks0 Q0 s0 :=
  dcg_has (dom := fun (_ : Unit) => True) (enc := fun _ => []) (out := fun _ => .bool true) (a := ()) h (fun _ _ _ => rfl) trivial q0 H0 i0 r0 k0 l0 dr0 ks0 Q0 s0
theorem ook17 : OraOK Try.prog 17 o17 := lift orders ft_ok (by decide) (fun x hd => by simp) (fun x hd => by simp [pure_undef, pure_bool, pure_int, pure_str, pure_nils, pure_agg, pure_tuple, pure_setL, pure_treeL, pure_rowL, pureL_eNd, pure_nats]) (fun x hd => go17)
noncomputable def t8 : FT := upd (t7) 17 o17
theorem t8_ok : FTOK Try.prog t8 := upd_ok (t7_ok) (by decide) ook17

end Go.Proofs.Abs
