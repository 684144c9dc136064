/- A part of a proof: the text that states the row tells what is proved. No condition is laid on anything. -/
import Derived.Test.YtgcncpedpjjjeaaAbsF5
set_option linter.all false
set_option linter.constructorNameAsVariable false
set_option linter.defProp false
set_option linter.unusedVariables false
set_option linter.unusedSimpArgs false
set_option maxRecDepth 100000
namespace Go.Proofs.Abs
open Go
/-! ### What a tree takes -/
/-- A node of a tree takes a row from a place to a place. -/
def tk (t : List Nd) (l : List Int) (n i j : Nat) : Bool :=
  let x := t.getD n default
  if x.kind = 1 then decide (i = j)
  else if x.kind = 2 then decide (j = i + 1) && hasS x.set (l.getD i 0)
  else if x.kind = 4 then (if h : x.a.toNat < n then tk t l x.a.toNat i j else false) || (if h : x.b.toNat < n then tk t l x.b.toNat i j else false)
  else if x.kind = 3 then (List.range (j + 1 - i)).any fun d => (if h : x.a.toNat < n then tk t l x.a.toNat i (i + d) else false) && (if h : x.b.toNat < n then tk t l x.b.toNat (i + d) j else false)
  else if x.kind = 5 then decide (i = j) || (List.range (j - i)).any fun d => (if h : x.a.toNat < n then tk t l x.a.toNat i (i + 1 + d) else false) && (if h : i + 1 + d ≤ j then tk t l n (i + 1 + d) j else false)
  else false
termination_by (n, j - i)
decreasing_by
  all_goals first | exact Prod.Lex.left _ _ (by assumption) | exact Prod.Lex.right _ (by omega)
def takesT (t : List Nd) (l : List Int) : Bool := goodT t && tk t l (t.length - 1) 0 l.length
section
variable {t : List Nd} {l : List Int} {n i j : Nat}
theorem tk_empty (h : (t.getD n default).kind = 1) : tk t l n i j = decide (i = j) := by
  rw [tk]; generalize t.getD n default = x at *; simp [h]
theorem tk_one (h : (t.getD n default).kind = 2) : tk t l n i j = (decide (j = i + 1) && hasS (t.getD n default).set (l.getD i 0)) := by
  rw [tk]; generalize t.getD n default = x at *; simp [h]
theorem tk_alt (h : (t.getD n default).kind = 4) {a b : Nat} (ha : (t.getD n default).a = a) (hb : (t.getD n default).b = b) (h1 : a < n) (h2 : b < n) : tk t l n i j = (tk t l a i j || tk t l b i j) := by
  rw [tk]; generalize t.getD n default = x at *; simp [h, ha, hb, h1, h2]
theorem tk_cat (h : (t.getD n default).kind = 3) {a b : Nat} (ha : (t.getD n default).a = a) (hb : (t.getD n default).b = b) (h1 : a < n) (h2 : b < n) : tk t l n i j = (List.range (j + 1 - i)).any fun d => tk t l a i (i + d) && tk t l b (i + d) j := by
  rw [tk]; generalize t.getD n default = x at *; simp [h, ha, hb, h1, h2]
theorem any_congr {m : Nat} {f g : Nat → Bool} (h : ∀ d, d < m → f d = g d) : (List.range m).any f = (List.range m).any g := by
  rw [Bool.eq_iff_iff]
  simp only [List.any_eq_true, List.mem_range]
  constructor
  · rintro ⟨d, hd, e⟩; exact ⟨d, hd, by rw [← h d hd]; exact e⟩
  · rintro ⟨d, hd, e⟩; exact ⟨d, hd, by rw [h d hd]; exact e⟩
theorem tk_star (h : (t.getD n default).kind = 5) {a : Nat} (ha : (t.getD n default).a = a) (h1 : a < n) : tk t l n i j = (decide (i = j) || (List.range (j - i)).any fun d => tk t l a i (i + 1 + d) && tk t l n (i + 1 + d) j) := by
  rw [tk]
  generalize t.getD n default = x at *
  simp only [h, ha, Int.toNat_natCast, h1, dite_true]
  rw [if_neg (by decide), if_neg (by decide), if_neg (by decide), if_neg (by decide), if_true]
  congr 1
  refine any_congr fun d hd => ?_
  have : i + 1 + d ≤ j := by omega
  simp [this]
theorem tk_other (h1 : (t.getD n default).kind ≠ 1) (h2 : (t.getD n default).kind ≠ 2) (h3 : (t.getD n default).kind ≠ 3) (h4 : (t.getD n default).kind ≠ 4) (h5 : (t.getD n default).kind ≠ 5) : tk t l n i j = false := by
  rw [tk]; generalize t.getD n default = x at *; simp [h1, h2, h3, h4, h5]
end
/-! The memo. -/
def K3 (n i j : Nat) : AV := .agg [.int .i64 n, .int .i64 i, .int .i64 j]
def b01 (b : Bool) : AV := .int .i64 (if b then 1 else 0)
def Memo (t : List Nd) (l : List Int) (es : List (AV × AV)) : Prop := ∀ e ∈ es, ∃ n i j, e = (K3 n i j, b01 (tk t l n i j))
theorem keyEq_K3 (n i j n' i' j' : Nat) : keyEq 3 [0, 0, 0] (K3 n i j) (K3 n' i' j') = some (decide (n = n' ∧ i = i' ∧ j = j')) := by
  unfold keyEq K3
  simp only [acells, if_true]
  by_cases h1 : n = n'
  · subst h1
    by_cases h2 : i = i'
    · subst h2
      by_cases h3 : j = j'
      · subst h3; simp
      · have : ((j : Int) == (j' : Int)) = false := by
          simp only [beq_eq_false_iff_ne]; omega
        simp [this, h3]
    · have : ((i : Int) == (i' : Int)) = false := by
          simp only [beq_eq_false_iff_ne]; omega
      simp [this, h2]
  · have : ((n : Int) == (n' : Int)) = false := by
          simp only [beq_eq_false_iff_ne]; omega
    simp [this, h1]
theorem memo_find {t : List Nd} {l : List Int} {es : List (AV × AV)} (h : Memo t l es) (n i j : Nat) : mfind 3 [0, 0, 0] es (K3 n i j) = some none ∨ mfind 3 [0, 0, 0] es (K3 n i j) = some (some (b01 (tk t l n i j))) := by
  induction es with
  | nil =>
    left
    unfold mfind
    rw [keyEq_K3]
  | cons e es ih =>
    obtain ⟨n', i', j', rfl⟩ := h e (by simp)
    unfold mfind
    rw [keyEq_K3]
    by_cases hk : n = n' ∧ i = i' ∧ j = j'
    · obtain ⟨rfl, rfl, rfl⟩ := hk
      right
      simp
    · simp only [hk, decide_false]
      exact ih fun e he => h e (by simp [he])
theorem memo_put {t : List Nd} {l : List Int} {es : List (AV × AV)} (h : Memo t l es) (n i j : Nat) : ∃ pre post, Memo t l (pre ++ post) ∧ (∀ v, mput 3 [0, 0, 0] es (K3 n i j) v = some (pre ++ (K3 n i j, v) :: post)) ∧
    ∀ v0 v, mput 3 [0, 0, 0] (pre ++ (K3 n i j, v0) :: post) (K3 n i j) v = some (pre ++ (K3 n i j, v) :: post) := by
  induction es with
  | nil =>
    refine ⟨[], [], by simpa using h, fun v => ?_, fun v0 v => ?_⟩
    · unfold mput
      rw [keyEq_K3]
      rfl
    · simp only [List.nil_append]
      unfold mput
      rw [keyEq_K3]
      simp
  | cons e es ih =>
    obtain ⟨n', i', j', rfl⟩ := h e (by simp)
    by_cases hk : n = n' ∧ i = i' ∧ j = j'
    · obtain ⟨rfl, rfl, rfl⟩ := hk
      refine ⟨[], es, fun e he => h e (by simp at he; simp [he]), fun v => ?_, fun v0 v => ?_⟩
      · unfold mput
        rw [keyEq_K3]
        simp
      · simp only [List.nil_append]
        unfold mput
        rw [keyEq_K3]
        simp
    · obtain ⟨pre, post, h1, h2, h3⟩ := ih fun e he => h e (by simp [he])
      refine ⟨(K3 n' i' j', b01 (tk t l n' i' j')) :: pre, post, fun e he => ?_, fun v => ?_, fun v0 v => ?_⟩
      · rw [List.cons_append, List.mem_cons] at he
        rcases he with rfl | he
        · exact ⟨_, _, _, rfl⟩
        · exact h1 e he
      · unfold mput
        rw [keyEq_K3]
        simp only [hk, decide_false, h2 v, Option.map_some, List.cons_append]
      · rw [List.cons_append]
        unfold mput
        rw [keyEq_K3]
        simp only [hk, decide_false, h3 v0 v, Option.map_some, List.cons_append]
theorem memo_new {t : List Nd} {l : List Int} {pre post : List (AV × AV)} (h : Memo t l (pre ++ post)) (n i j : Nat) : Memo t l (pre ++ (K3 n i j, b01 (tk t l n i j)) :: post) := by
  intro e he
  rw [List.mem_append, List.mem_cons] at he
  rcases he with he | rfl | he
  · exact h e (by simp [he])
  · exact ⟨_, _, _, rfl⟩
  · exact h e (by simp [he])
end Go.Proofs.Abs
