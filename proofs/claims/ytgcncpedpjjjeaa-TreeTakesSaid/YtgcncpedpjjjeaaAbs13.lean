/- A part of a proof: the text that states the row tells what is proved. No condition is laid on anything. -/
import Derived.Test.YtgcncpedpjjjeaaAbs12
set_option linter.all false
set_option linter.constructorNameAsVariable false
set_option linter.defProp false
set_option linter.unusedVariables false
set_option linter.unusedSimpArgs false
namespace Go.Proofs.Abs
open Go

/-! ### Code -/
def chkCode (P : Program) (nt : Nat) : Code → ACode → Bool
  | .skip, .skip => true
  | .region _ ops false, .reg is _ => chkOps P nt ops ops.toList is
  | .region _ ops true, .dreg is _ => chkOps P nt ops ops.toList is && slotsOK 0 is && preOK ops is
  | .seq a b, .seq a' b' => chkCode P nt a a' && chkCode P nt b b'
  | .cond c x y, .cond c' _ x' y' => opdOK c c' && chkCode P nt x x' && chkCode P nt y y'
  | .block id c, .block id' c' => id == id' && chkCode P nt c c'
  | .loop c, .loop _ c' => chkCode P nt c c'
  | .exit id, .exit id' => id == id'
  | .ret, .ret => true
  | _, _ => false

def liftE : AExit → Exit
  | .normal => .normal
  | .exit id => .exit id
  | .ret => .ret

theorem eget_edrop (e : Env) (l : List Nat) (i : Nat) : eget (edrop e l) i = if l.contains i then .undef else eget e i := by
  induction e with
  | nil => simp [edrop, eget]
  | cons p r ih =>
    obtain ⟨k, u⟩ := p
    unfold edrop at ih ⊢
    by_cases hk : l.contains k = true
    · rw [List.filter_cons_of_neg (by simpa using hk), ih]
      by_cases h : k = i
      · subst h; rw [if_pos hk, if_pos hk]
      · simp [eget, h]
    · rw [List.filter_cons_of_pos (by simpa using hk)]
      by_cases h : k = i
      · subst h
        simp only [eget, if_true]
        rw [if_neg hk]
      · simp only [eget, if_neg h, ih]

theorem eget_ekeep (e : Env) (l : List Nat) (i : Nat) : eget (ekeep e l) i = if l.contains i then eget e i else .undef := by
  induction e with
  | nil => simp [ekeep, eget]
  | cons p r ih =>
    obtain ⟨k, u⟩ := p
    unfold ekeep at ih ⊢
    by_cases hk : l.contains k = true
    · rw [List.filter_cons_of_pos (by simpa using hk)]
      by_cases h : k = i
      · subst h
        simp only [eget, if_true]
        rw [if_pos hk]
      · simp only [eget, if_neg h, ih]
    · rw [List.filter_cons_of_neg (by simpa using hk), ih]
      by_cases h : k = i
      · subst h
        rw [if_neg hk, if_neg hk]
      · simp [eget, h]

section
variable {P : Program} {C : Ctx} {nt : Nat} {env : Env} {a : Act}
theorem SimE.drop (sim : SimE nt env C a) (l : List Nat) : SimE nt (edrop env l) C a := ⟨sim.size, sim.defers, fun i => by
  rw [eget_edrop]
  split
  · exact .undef _
  · exact sim.env i⟩
theorem SimE.keep (sim : SimE nt env C a) (l : List Nat) : SimE nt (ekeep env l) C a := ⟨sim.size, sim.defers, fun i => by
  rw [eget_ekeep]
  split
  · exact sim.env i
  · exact .undef _⟩
end

theorem hpop_sub {H : Heap} (hn : HND H) {id : Id} {o : AObj} (h : hget (hpop H) id = some o) : hget H id = some o := by
  cases H with
  | nil => exact h
  | cons f r =>
    have h' : hget r id = some o := h
    simp only [hget]
    cases hf : fget f id with
    | none => exact h'
    | some o2 => rw [hn.1 id o2 hf] at h'; cases h'
theorem hpop_nd {H : Heap} (hn : HND H) : HND (hpop H) := by
  cases H with
  | nil => trivial
  | cons f r => exact hn.2
theorem fget_append (f g : Fr) (id : Id) : fget (f ++ g) id = (match fget f id with | some o => some o | none => fget g id) := by
  induction f with
  | nil => rfl
  | cons p f ih =>
    obtain ⟨i, o⟩ := p
    by_cases h : i = id
    · simp [fget, h]
    · simp [fget, h, ih]
theorem hget_hmerge (H : Heap) (id : Id) : hget (hmerge H) id = hget H id := by
  match H with
  | [] => rfl
  | [f] => rfl
  | f :: g :: r =>
    simp only [hmerge, hget, fget_append]
    cases fget f id <;> rfl
theorem hmerge_nd {H : Heap} (hn : HND H) : HND (hmerge H) := by
  match H, hn with
  | [], _ => trivial
  | [f], h => exact h
  | f :: g :: r, h =>
    refine ⟨fun id o e => ?_, h.2.2⟩
    rw [fget_append] at e
    cases hf : fget f id with
    | some o2 =>
      have := h.1 id o2 hf
      simp only [hget] at this
      split at this
      · cases this
      · exact this
    | none => rw [hf] at e; exact h.2.1 id o e

theorem HRep.heq {C : Ctx} (hr : HRep C) {H : Heap} (hn : HND H) (hg : ∀ id, hget H id = hget C.H id) : HRep { C with H := H } :=
  HRep.less (A := C.Av) hr hn (fun id o h => by rw [← hg]; exact h) (fun _ h => h)

theorem Post.trans {nt : Nat} {s s1 s2 : St} {C C1 C2 : Ctx} {a1 a2 : Act} (h : Post nt s s1 C a1 C1) (k : Post nt s1 s2 C1 a2 C2) : Post nt s s2 C a2 C2 :=
  ⟨k.heap, k.sim, k.hrep, h.ext.trans k.ext, k.av, fun id h1 h2 => k.out id (h.out id h1 h2) (by rw [h.path]; exact h2), k.path.trans h.path⟩

def resRun (tmps : Array Value) : ResultVar → Sem Value
  | .tmp t => pure (tmps.getD t undef)
  | .cell a t => do loadVar t (← asAddr (tmps.getD a undef))

def resOK1 (P : Program) : ResultVar → RV → Bool
  | .tmp t, .t i => t == i
  | .cell c t, .c i agg m => c == i && aggIs P t agg && sizeIs P t m && (agg || m == 1)
  | _, _ => false
def resOK (P : Program) : List ResultVar → List RV → Bool
  | [], [] => true
  | r :: rs, v :: vs => resOK1 P r v && resOK P rs vs
  | _, _ => false

theorem resOf_rep {P : Program} {C : Ctx} {nt : Nat} {env : Env} {a : Act} (sim : SimE nt env C a) (hr : HRep C) : ∀ (rs : List ResultVar) (rvs : List RV) (l : List AV), 
    resOK P rs rvs = true → resOf env C.H rvs = some l →
    ∃ vs : List Value, (rs.mapM (resRun a.tmps)).run P C.w = .ok vs C.w ∧ RepL C l vs
  | [], rvs, l, h1, h => by
    cases rvs with
    | cons => simp [resOK] at h1
    | nil =>
      simp only [resOf, Option.some.injEq] at h
      subst h
      exact ⟨[], by simp, .nil⟩
  | r :: rs, rvs, l, h1, h => by
    cases rvs with
    | nil => simp [resOK] at h1
    | cons rv rvs =>
      simp only [resOK, Bool.and_eq_true] at h1
      obtain ⟨h0, h1⟩ := h1
      have hrest := fun l' h' => resOf_rep sim hr rs rvs l' h1 h'
      cases r with
      | tmp t =>
        cases rv with
        | c => simp [resOK1] at h0
        | t i =>
          simp only [resOK1, beq_iff_eq] at h0
          subst h0
          simp only [resOf] at h
          split at h
          · rename_i l' el
            injection h with h
            subst h
            obtain ⟨vs, e1, e2⟩ := hrest l' el
            exact ⟨a.tmps.getD t undef :: vs, by simp [List.mapM_cons, resRun, e1], .cons (sim.env t) e2⟩
          · cases h
      | cell c t =>
        cases rv with
        | t => simp [resOK1] at h0
        | c i agg m =>
          simp only [resOK1, Bool.and_eq_true, Bool.or_eq_true, beq_iff_eq] at h0
          obtain ⟨⟨⟨rfl, q1⟩, q2⟩, q3⟩ := h0
          simp only [resOf] at h
          split at h
          · rename_i id n ix j er
            have hv := sim.env c
            rw [er] at hv
            split at h
            · rename_i ob eob
              split at h
              · rename_i cs ecs
                split at h
                · rename_i hm
                  split at h
                  · rename_i v l' eof el
                    injection h with h
                    subst h
                    obtain ⟨vs, e1, e2⟩ := hrest l' el
                    obtain ⟨g, p1, p2, us, r1, r2, r3⟩ := loadObj_cells hr eob ecs hm hv
                    have hrun := run_loadVar' (P := P) (w := C.w) (ad := ⟨g, ix * cellsz ob + j, none⟩) (us := us) q1 q2 rfl (by rw [← r1.1]; exact hm) q3 r3
                    rcases ofCells_rep r1 r2 eof with ⟨rfl, rr⟩ | ⟨rfl, u, hu', rr⟩
                    · exact ⟨.agg us.toArray :: vs, by simp [List.mapM_cons, resRun, p1, asAddr, hrun, e1], .cons rr e2⟩
                    · rw [hu'] at hrun
                      exact ⟨u :: vs, by simp [List.mapM_cons, resRun, p1, asAddr, hrun, e1], .cons rr e2⟩
                  · cases h
                · cases h
              · cases h
            · cases h
          · cases h

end Go.Proofs.Abs
