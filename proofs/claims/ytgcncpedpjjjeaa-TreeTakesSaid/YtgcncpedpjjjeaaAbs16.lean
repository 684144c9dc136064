/- A part of a proof: the text that states the row tells what is proved. No condition is laid on anything. -/
import Derived.Test.YtgcncpedpjjjeaaAbs15
set_option linter.all false
set_option linter.constructorNameAsVariable false
set_option linter.defProp false
set_option linter.unusedVariables false
set_option linter.unusedSimpArgs false
namespace Go.Proofs.Abs
open Go

/-! ### What an operation does by its class -/
theorem cls_l {i : AIns} {e : Env} {H : Heap} {p : Id} {k : Nat} {v : AV} {s1 : St} (hc : clsOf i e = .l) (h : ains i ⟨e, H, p, k⟩ = some (v, s1)) :
    s1 = ⟨e, H, p, k⟩ ∧ ∀ H', ains i ⟨e, H', p, k⟩ = some (v, ⟨e, H', p, k⟩) := by
  cases i <;> simp only [clsOf, reduceCtorEq] at hc <;> simp only [ains] at h ⊢
  case slc sz x lo hi mx =>
    have hrow : ∀ H', rowsOf H' (x.ev e) sz = rowsOf H (x.ev e) sz := by
      intro H'
      cases hx : x.ev e <;> simp_all [rowsOf]
    simp only [hrow]
    (repeat' split at h) <;> first
      | (simp only [reduceCtorEq] at h; done)
      | (simp only [Option.some.injEq, Prod.mk.injEq] at h; obtain ⟨rfl, rfl⟩ := h; simp_all; done)
      | (simp_all; done)
  all_goals (repeat' split at h) <;> first
    | (simp only [reduceCtorEq] at h; done)
    | (simp only [Option.some.injEq, Prod.mk.injEq] at h; obtain ⟨rfl, rfl⟩ := h; simp_all; done)
    | (simp only [Option.map_eq_some_iff, Prod.mk.injEq] at h; obtain ⟨_, h1, rfl, rfl⟩ := h; simp_all; done)
    | (simp_all [rowsOf]; done)
    | skip
theorem cls_r {i : AIns} {e : Env} {H : Heap} {p : Id} {k : Nat} {v : AV} {s1 : St} {id : Id} (hc : clsOf i e = .r id) (h : ains i ⟨e, H, p, k⟩ = some (v, s1)) :
    s1 = ⟨e, H, p, k⟩ ∧ (∃ o, hget H id = some o) ∧ ∀ H', hget H' id = hget H id → ains i ⟨e, H', p, k⟩ = some (v, ⟨e, H', p, k⟩) := by
  cases i <;> simp only [clsOf, reduceCtorEq] at hc <;> simp only [ains] at h ⊢
  all_goals (repeat' split at h) <;> first
    | (simp only [reduceCtorEq] at h; done)
    | (simp only [Option.some.injEq, Prod.mk.injEq] at h; obtain ⟨rfl, rfl⟩ := h; simp_all; done)
    | (simp only [Option.map_eq_some_iff, Prod.mk.injEq] at h; obtain ⟨_, h1, rfl, rfl⟩ := h; simp_all; done)
    | (simp_all [rowsOf]; done)
    | (split at hc <;> simp_all; done)
    | skip
theorem cls_n {i : AIns} {e : Env} {H : Heap} {p : Id} {k : Nat} {v : AV} {s1 : St} {o : AObj} (hc : clsOf i e = .n o) (h : ains i ⟨e, H, p, k⟩ = some (v, s1)) :
    ∀ H', ains i ⟨e, H', p, k⟩ = some (v, ⟨e, hadd H' (p ++ [k]) o, p, k + 1⟩) := by
  cases i <;> simp only [clsOf, reduceCtorEq] at hc <;> simp only [ains] at h ⊢
  case new z =>
    injection hc with hc
    subst hc
    simp only [Option.some.injEq, Prod.mk.injEq] at h
    obtain ⟨rfl, rfl⟩ := h
    intro H'
    rfl
  case box x =>
    split at h
    · rename_i cs hcs
      simp only [hcs] at hc ⊢
      injection hc with hc
      subst hc
      simp only [Option.some.injEq, Prod.mk.injEq] at h
      obtain ⟨rfl, rfl⟩ := h
      intro H'
      rfl
    · cases h
  all_goals (repeat' split at hc) <;> simp_all
theorem cls_call {i : AIns} {e : Env} (h : isCall i = true) : clsOf i e = .c := by
  cases i <;> simp [isCall] at h <;> rfl

/-! ### New objects in any order -/
theorem fget_fins (f : Fr) (id id' : Id) (o : AObj) (h : fget f id = none) : fget (fins f id o) id' = if id = id' then some o else fget f id' := by
  induction f with
  | nil => rfl
  | cons x f ih =>
    obtain ⟨i, x⟩ := x
    simp only [fget] at h
    split at h
    · cases h
    · rename_i hi
      simp only [fins]
      split
      · simp only [fget, ih h]
        by_cases h1 : i = id'
        · subst h1; simp [Ne.symm hi]
        · simp [h1]
      · simp only [fget]
theorem hget_hins (H : Heap) (id id' : Id) (o : AObj) (h : hget H id = none) : hget (hins H id o) id' = if id = id' then some o else hget H id' := by
  cases H with
  | nil => by_cases h1 : id = id' <;> simp [hins, hget, fget, h1]
  | cons f r =>
    simp only [hget] at h
    split at h
    · cases h
    · rename_i hf
      simp only [hins, hget, fget_fins f id id' o hf]
      by_cases h1 : id = id' <;> simp [h1]
theorem fins_comm (f : Fr) {a b : Id} (x y : AObj) (h : idk a ≠ idk b) : fins (fins f a x) b y = fins (fins f b y) a x := by
  induction f with
  | nil =>
    simp only [fins]
    rcases Nat.lt_or_gt_of_ne h with h1 | h1
    · rw [if_neg (by omega), if_pos h1]
    · rw [if_pos h1, if_neg (by omega)]
  | cons c f ih =>
    obtain ⟨i, o⟩ := c
    simp only [fins]
    by_cases h1 : idk a < idk i <;> by_cases h2 : idk b < idk i
    · rw [if_pos h1, if_pos h2]; simp only [fins]; rw [if_pos h1, if_pos h2, ih]
    · rw [if_pos h1, if_neg h2]
      simp only [fins]
      rw [if_neg h2, if_pos (by omega), if_pos h1]
    · rw [if_neg h1, if_pos h2]
      simp only [fins]
      rw [if_neg h1, if_pos (by omega), if_pos h2]
    · rw [if_neg h1, if_neg h2]
      simp only [fins]
      rcases Nat.lt_or_gt_of_ne h with h3 | h3
      · rw [if_neg (by omega), if_pos h3, if_neg h1]
      · rw [if_pos h3, if_neg (by omega), if_neg (by omega)]
theorem hins_comm (H : Heap) {a b : Id} (x y : AObj) (h : idk a ≠ idk b) : hins (hins H a x) b y = hins (hins H b y) a x := by
  cases H with
  | nil => simp only [hins]; exact congrArg (· :: []) (fins_comm [] x y h)
  | cons f r => simp only [hins]; exact congrArg (· :: r) (fins_comm f x y h)
theorem HND.hins {H : Heap} (h : HND H) (id : Id) (x : AObj) (hn : hget H id = none) : HND (hins H id x) := by
  cases H with
  | nil => exact ⟨fun _ _ _ => rfl, trivial⟩
  | cons f r =>
    simp only [hget] at hn
    split at hn
    · cases hn
    · rename_i hf
      refine ⟨fun id' o' e => ?_, h.2⟩
      rw [fget_fins f id id' x hf] at e
      split at e
      · rename_i hid; subst hid; exact hn
      · exact h.1 id' o' e
theorem idk_last (p : Id) (k : Nat) : idk (p ++ [k]) = k := by simp [idk]

/-! ### Likeness -/
mutual
theorem beqA_eq : ∀ {a b : AV}, beqA a b = true → a = b
  | .undef, b, h => by cases b <;> simp_all [beqA]
  | .bool x, b, h => by cases b <;> simp_all [beqA]
  | .int k n, b, h => by cases b <;> simp_all [beqA]
  | .str s, b, h => by cases b <;> simp_all [beqA]
  | .nils, b, h => by cases b <;> simp_all [beqA]
  | .list z r, b, h => by
    cases b <;> simp [beqA] at h
    rw [h.1, beqLL_eq h.2]
  | .own i n, b, h => by cases b <;> simp_all [beqA]
  | .emp, b, h => by cases b <;> simp_all [beqA]
  | .agg r, b, h => by
    cases b <;> simp [beqA] at h
    rw [beqL_eq h]
  | .tuple r, b, h => by
    cases b <;> simp [beqA] at h
    rw [beqL_eq h]
  | .nilp, b, h => by cases b <;> simp_all [beqA]
  | .rp r, b, h => by
    cases b <;> simp [beqA] at h
    rw [beqL_eq h]
  | .ref i n j k, b, h => by cases b <;> simp_all [beqA]
  | .nilm, b, h => by cases b <;> simp_all [beqA]
  | .map i, b, h => by cases b <;> simp_all [beqA]
  | .nilf, b, h => by cases b <;> simp_all [beqA]
  | .func f c, b, h => by
    cases b <;> simp [beqA] at h
    rw [h.1, beqL_eq h.2]
  | .nili, b, h => by cases b <;> simp_all [beqA]
  | .iface t v, b, h => by
    cases b <;> simp [beqA] at h
    rw [h.1, beqA_eq h.2]
theorem beqL_eq : ∀ {a b : List AV}, beqL a b = true → a = b
  | [], [], _ => rfl
  | [], _ :: _, h => by simp [beqL] at h
  | _ :: _, [], h => by simp [beqL] at h
  | a :: r, b :: r', h => by
    simp only [beqL, Bool.and_eq_true] at h
    rw [beqA_eq h.1, beqL_eq h.2]
theorem beqLL_eq : ∀ {a b : List (List AV)}, beqLL a b = true → a = b
  | [], [], _ => rfl
  | [], _ :: _, h => by simp [beqLL] at h
  | _ :: _, [], h => by simp [beqLL] at h
  | a :: r, b :: r', h => by
    simp only [beqLL, Bool.and_eq_true] at h
    rw [beqL_eq h.1, beqLL_eq h.2]
end
theorem beqE_eq : ∀ {a b : List (AV × AV)}, beqE a b = true → a = b
  | [], [], _ => rfl
  | [], _ :: _, h => by simp [beqE] at h
  | _ :: _, [], h => by simp [beqE] at h
  | (a, x) :: r, (b, y) :: r', h => by
    simp only [beqE, Bool.and_eq_true] at h
    rw [beqA_eq h.1.1, beqA_eq h.1.2, beqE_eq h.2]
theorem beqO_eq {a b : AObj} (h : beqO a b = true) : a = b := by
  cases a <;> cases b <;> simp only [beqO, Bool.and_eq_true, beq_iff_eq, reduceCtorEq, Bool.false_eq_true] at h
  · obtain ⟨⟨⟨⟨rfl, rfl⟩, rfl⟩, rfl⟩, h⟩ := h
    rw [beqLL_eq h]
  · rw [beqL_eq h]
  · rw [beqE_eq h]
theorem beqF_eq : ∀ {a b : Fr}, beqF a b = true → a = b
  | [], [], _ => rfl
  | [], _ :: _, h => by simp [beqF] at h
  | _ :: _, [], h => by simp [beqF] at h
  | (a, x) :: r, (b, y) :: r', h => by
    simp only [beqF, Bool.and_eq_true, beq_iff_eq] at h
    rw [h.1.1, beqO_eq h.1.2, beqF_eq h.2]
theorem beqH_eq : ∀ {a b : Heap}, beqH a b = true → a = b
  | [], [], _ => rfl
  | [], _ :: _, h => by simp [beqH] at h
  | _ :: _, [], h => by simp [beqH] at h
  | a :: r, b :: r', h => by
    simp only [beqH, Bool.and_eq_true] at h
    rw [beqF_eq h.1, beqH_eq h.2]

/-! ### The text's run, told by its steps -/
theorem acallIns_env {call : CallF} {s s1 : St} {f : Nat} {pre : List AV} {args : List (Bool × AX)} {v : AV} (h : acallIns call s f pre args = some (v, s1)) : s1.env = s.env ∧ s1.p = s.p := by
  unfold acallIns at h
  (repeat' split at h) <;> simp_all
  all_goals (obtain ⟨_, rfl⟩ := h; exact ⟨rfl, rfl⟩)
theorem astep_env {call : CallF} {i : AIns} {s s1 : St} {v : AV} (h : astep call i s = some (v, s1)) : s1.env = s.env ∧ s1.p = s.p := by
  cases i
  case call f args => exact acallIns_env h
  case callv x args =>
    simp only [astep] at h
    split at h
    · split at h
      · exact acallIns_env h
      · cases h
    · cases h
  all_goals (simp only [astep] at h; exact ains_env h)
theorem adstep_env {call : CallF} {i : AIn} {s s1 : St} {v : AV} {c : Cl} (h : adstep call i s = some (c, v, s1)) : s1.env = s.env ∧ s1.p = s.p := by
  unfold adstep at h
  (repeat' split at h) <;> simp only [reduceCtorEq, Option.some.injEq, Prod.mk.injEq] at h
  all_goals (obtain ⟨_, _, rfl⟩ := h)
  all_goals first
    | exact ⟨rfl, rfl⟩
    | (rename_i hs _ _; exact astep_env hs)
    | (rename_i hs _; exact astep_env hs)
    | (rename_i hs _ _ _; exact astep_env hs)
    | (rename_i hs _ _ _ _; exact astep_env hs)
    | (rename_i hs _ _ _ _ _; exact astep_env hs)

structure Trace (call : CallF) (is : List AIn) (e0 : Env) (H0 : Heap) (p : Id) (k : Nat) (E : Nat → Env) (Hh : Nat → Heap) (V : Nat → AV) (l : List Rec) : Prop where
  e0 : E 0 = e0
  h0 : Hh 0 = H0
  len : l.length = is.length
  step : ∀ j i, is[j]? = some i → ∃ r s1, l[j]? = some r ∧ r.pre = i.pre ∧ r.me = p ++ [k + j] ∧ adstep call i ⟨E j, Hh j, p, k + j⟩ = some (r.c, V j, s1) ∧ s1.heap = Hh (j + 1) ∧ E (j + 1) = putd (E j) i.d (V j)

theorem trace_of {call : CallF} {p : Id} : ∀ (is : List AIn) (k : Nat) (s s' : St) (l : List Rec), s.p = p → adrun call is k s = some (s', l) →
    ∃ E Hh V, Trace call is s.env s.heap p k E Hh V l ∧ s' = ⟨E is.length, Hh is.length, p, k + is.length⟩
  | [], k, s, s', l, hp, h => by
    simp only [adrun, Option.some.injEq, Prod.mk.injEq] at h
    obtain ⟨rfl, rfl⟩ := h
    exact ⟨fun _ => s.env, fun _ => s.heap, fun _ => .undef, ⟨rfl, rfl, rfl, fun j i h => by simp at h⟩, by simp [← hp]⟩
  | i :: is, k, s, s', l, hp, h => by
    simp only [adrun] at h
    split at h
    · rename_i c v s1 h1
      split at h
      · rename_i s2 l2 h2
        simp only [Option.some.injEq, Prod.mk.injEq] at h
        obtain ⟨rfl, rfl⟩ := h
        obtain ⟨he, hpp⟩ := adstep_env h1
        obtain ⟨E, Hh, V, ht, rfl⟩ := trace_of is (k + 1) { s1 with env := putd s1.env i.d v } s2 l2 (hpp.trans hp) h2
        have hk : ({ s with k := k } : St) = ⟨s.env, s.heap, p, k⟩ := by rw [← hp]
        refine ⟨fun j => match j with | 0 => s.env | j + 1 => E j, fun j => match j with | 0 => s.heap | j + 1 => Hh j, fun j => match j with | 0 => v | j + 1 => V j, ⟨rfl, rfl, by simp [ht.len], fun j i' hj => ?_⟩, ?_⟩
        · cases j with
          | zero =>
            simp only [List.getElem?_cons_zero, Option.some.injEq] at hj
            subst hj
            exact ⟨_, s1, rfl, rfl, by rw [← hp]; rfl, by rw [hk] at h1; exact h1, ht.h0.symm, by show E 0 = _; rw [ht.e0]; show putd s1.env i.d v = putd s.env i.d v; rw [he]⟩
          | succ j =>
            simp only [List.getElem?_cons_succ] at hj
            obtain ⟨r, s3, h3, h4, h4', h5, h6, h7⟩ := ht.step j i' hj
            exact ⟨r, s3, by simpa using h3, h4, by rw [show k + (j + 1) = k + 1 + j by omega]; exact h4', by rw [show k + (j + 1) = k + 1 + j by omega]; exact h5, h6, h7⟩
        · simp only [List.length_cons]
          congr 1
          omega
      · cases h
    · cases h

end Go.Proofs.Abs
