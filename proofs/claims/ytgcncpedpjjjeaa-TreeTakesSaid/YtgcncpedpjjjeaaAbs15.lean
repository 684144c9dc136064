/- A part of a proof: the text that states the row tells what is proved. No condition is laid on anything. -/
import Derived.Test.YtgcncpedpjjjeaaAbs13
set_option linter.all false
set_option linter.constructorNameAsVariable false
set_option linter.defProp false
set_option linter.unusedVariables false
set_option linter.unusedSimpArgs false
namespace Go.Proofs.Abs
open Go

section
variable {e e' : Env}
theorem ev_congr {x : AX} (h : ∀ t ∈ axr x, eget e t = eget e' t) : x.ev e' = x.ev e := by
  cases x with
  | t i => exact (h i (by simp [axr])).symm
  | k v => rfl
theorem bnd_congr {x : Option AX} (h : ∀ t ∈ optr x, eget e t = eget e' t) (d : Nat) : bnd e' x d = bnd e x d := by
  cases x with
  | none => rfl
  | some x => simp only [bnd, ev_congr (x := x) h]
theorem agetl_congr : ∀ {l : List AX}, (∀ t ∈ l.flatMap axr, eget e t = eget e' t) → agetl l e' = agetl l e
  | [], _ => rfl
  | x :: l, h => by
    have h1 := ev_congr (x := x) (e := e) (e' := e') fun t ht => h t (by simp [ht])
    have h2 := agetl_congr (l := l) fun t ht => h t (by rw [List.flatMap_cons]; exact List.mem_append_right _ ht)
    simp only [agetl, List.map_cons] at h2 ⊢
    rw [h1, h2]
theorem partsOf_congr {raw : Bool} : ∀ {l : List (Nat × AX)} (H : Heap), (∀ t ∈ l.flatMap (fun p => axr p.2), eget e t = eget e' t) → partsOf e' H raw l = partsOf e H raw l
  | [], H, _ => rfl
  | (i, x) :: l, H, h => by
    have h1 := ev_congr (x := x) (e := e) (e' := e') fun t ht => h t (by simp [ht])
    have h2 := fun H => partsOf_congr (raw := raw) (l := l) H fun t ht => h t (by rw [List.flatMap_cons]; exact List.mem_append_right _ ht)
    simp only [partsOf, h1, h2]
theorem partsOfA_congr : ∀ {l : List (Nat × Nat × AX)}, (∀ t ∈ l.flatMap (fun p => axr p.2.2), eget e t = eget e' t) → partsOfA e' l = partsOfA e l
  | [], _ => rfl
  | (i, n, x) :: l, h => by
    have h1 := ev_congr (x := x) (e := e) (e' := e') fun t ht => h t (by simp [ht])
    have h2 := partsOfA_congr (l := l) fun t ht => h t (by rw [List.flatMap_cons]; exact List.mem_append_right _ ht)
    simp only [partsOfA, h1, h2]
theorem argsOf_congr : ∀ {l : List (Bool × AX)} (H : Heap), (∀ t ∈ l.flatMap (fun p => axr p.2), eget e t = eget e' t) → argsOf e' H l = argsOf e H l
  | [], H, _ => rfl
  | (i, x) :: l, H, h => by
    have h1 := ev_congr (x := x) (e := e) (e' := e') fun t ht => h t (by simp [ht])
    have h2 := fun H => argsOf_congr (l := l) H fun t ht => h t (by rw [List.flatMap_cons]; exact List.mem_append_right _ ht)
    simp only [argsOf, h1, h2]

/-- Another environment under the same state. -/
def seten (e : Env) (r : AV × St) : AV × St := (r.1, { r.2 with env := e })

theorem ains_congr {i : AIns} (h : ∀ t ∈ reads i, eget e t = eget e' t) (H : Heap) (p : Id) (k : Nat) :
    ains i ⟨e', H, p, k⟩ = (ains i ⟨e, H, p, k⟩).map (seten e') := by
  cases i <;> simp only [reads, List.mem_append, or_imp, forall_and] at h
  case mov x => simp only [ains, ev_congr h]; rfl
  case anil => rfl
  case pick c a b => simp only [ains, ev_congr h.1.1, ev_congr h.1.2, ev_congr h.2]; cases c.ev e <;> rfl
  case new => rfl
  case box x => simp only [ains, ev_congr h]; cases cellsOf (x.ev e) <;> rfl
  case agg z l =>
    simp only [ains, partsOfA_congr h]
    cases partsOfA e l with
    | none => rfl
    | some r => simp only; cases afill z r <;> rfl
  case mkl el sz z n l raw =>
    simp only [ains, partsOf_congr H h]
    cases partsOf e H raw l with
    | none => rfl
    | some r => simp only; cases setRows (List.replicate n z) r.1 <;> rfl
  case load ag m x =>
    simp only [ains, ev_congr h]
    (repeat' split) <;> simp_all [Option.map_map, Function.comp_def, seten]
  case store raw m x y =>
    simp only [ains, ev_congr h.1, ev_congr h.2]
    (repeat' split) <;> simp_all [seten]
  case nilck x => simp only [ains, ev_congr h]; cases x.ev e <;> rfl
  case bin op ty x y => simp only [ains, ev_congr h.1, ev_congr h.2]; cases abin op ty (x.ev e) (y.ev e) <;> rfl
  case bins op ty x y => simp only [ains, ev_congr h.1, ev_congr h.2]; cases abins op ty (x.ev e) (y.ev e) <;> rfl
  case un op x => simp only [ains, ev_congr h]; cases aun op (x.ev e) <;> rfl
  case conv k x => simp only [ains, ev_congr h]; cases x.ev e <;> rfl
  case faddr off x => simp only [ains, ev_congr h]; cases x.ev e <;> rfl
  case fld ag off m x =>
    simp only [ains, ev_congr h]
    (repeat' split) <;> simp_all [Option.map_map, Function.comp_def, seten]
  case iaddr sz x i =>
    simp only [ains, ev_congr h.1, ev_congr h.2]
    (repeat' split) <;> simp_all [Option.map_map, Function.comp_def, seten]
  case sidx x i =>
    simp only [ains, ev_congr h.1, ev_congr h.2]
    (repeat' split) <;> simp_all [Option.map_map, Function.comp_def, seten]
  case slc sz x lo hi mx =>
    simp only [ains, ev_congr h.1.1.1, bnd_congr h.1.1.2, bnd_congr h.1.2, bnd_congr h.2]
    (repeat' split) <;> simp_all [Option.map_map, Function.comp_def, seten]
  case isnil neg x =>
    simp only [ains, ev_congr h]
    (repeat' split) <;> simp_all [seten]
  case zap el sz x =>
    simp only [ains, ev_congr h]
    (repeat' split) <;> simp_all [St.add, seten]
  case sslc x lo hi =>
    simp only [ains, ev_congr h.1.1, bnd_congr h.1.2, bnd_congr h.2]
    (repeat' split) <;> simp_all [Option.map_map, Function.comp_def, seten]
  case ext x i =>
    simp only [ains, ev_congr h]
    (repeat' split) <;> simp_all [Option.map_map, Function.comp_def, seten]
  case mks el sz b z l =>
    simp only [ains, ev_congr h]
    (repeat' split) <;> simp_all [St.add, seten]
  case mkf f caps => simp only [ains, agetl_congr h]; rfl
  case mkm => rfl
  case look kd ks z ok m k =>
    simp only [ains, ev_congr h.1, ev_congr h.2]
    (repeat' split) <;> simp_all [seten]
  case mset kd ks m k v =>
    simp only [ains, ev_congr h.1.1, ev_congr h.1.2, ev_congr h.2]
    (repeat' split) <;> simp_all [seten]
  case len ty x =>
    simp only [ains, ev_congr h]
    (repeat' split) <;> simp_all [seten]
  case app el sz b x y =>
    simp only [ains, ev_congr h.1, ev_congr h.2]
    (repeat' split) <;> simp_all [seten]
  case mm mx xs =>
    simp only [ains, agetl_congr h]
    (repeat' split) <;> simp_all [Option.map_map, Function.comp_def, seten]
  case call => rfl
  case callv => rfl

theorem acallIns_congr {call : CallF} {args : List (Bool × AX)} (h : ∀ t ∈ args.flatMap (fun p => axr p.2), eget e t = eget e' t) (H : Heap) (p : Id) (k f : Nat) (pre : List AV) :
    acallIns call ⟨e', H, p, k⟩ f pre args = (acallIns call ⟨e, H, p, k⟩ f pre args).map (seten e') := by
  simp only [acallIns, argsOf_congr H h]
  (repeat' split) <;> simp_all [seten]

theorem astep_congr {call : CallF} {i : AIns} (h : ∀ t ∈ reads i, eget e t = eget e' t) (H : Heap) (p : Id) (k : Nat) :
    astep call i ⟨e', H, p, k⟩ = (astep call i ⟨e, H, p, k⟩).map (seten e') := by
  cases i
  case call f args => exact acallIns_congr h H p k f [] 
  case callv x args =>
    simp only [reads, List.mem_append, or_imp, forall_and] at h
    simp only [astep, ev_congr h.1, acallIns_congr h.2]
    (repeat' split) <;> simp_all
  all_goals exact ains_congr h H p k

theorem clsOf_congr {i : AIns} (h : ∀ t ∈ reads i, eget e t = eget e' t) : clsOf i e' = clsOf i e := by
  cases i <;> simp only [reads, List.mem_append, or_imp, forall_and] at h <;> simp only [clsOf]
  case load => rw [ev_congr h]
  case iaddr => rw [ev_congr h.1]
  case len => rw [ev_congr h]
  case slc => rw [ev_congr h.1.1.1]
  case isnil => rw [ev_congr h]
  case box => rw [ev_congr h]

theorem wanted_congr {i : AIn} (h : ∀ t ∈ readsG i, eget e t = eget e' t) : wanted e' i.g = wanted e i.g := by
  unfold readsG at h
  unfold wanted
  cases hg : i.g with
  | none => rfl
  | some g =>
    simp only [hg] at h
    simp only
    rw [h g.1 (by simp)]
end

end Go.Proofs.Abs
