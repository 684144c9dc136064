/- A part of a proof: the text that states the row tells what is proved. No condition is laid on anything. -/
import Derived.Test.YtgcncpedpjjjeaaAbs2
import Derived.Laws.Slices
import Derived.Laws.Append
import Derived.Laws.Tables
import Derived.Laws.Cells
import Derived.Laws.MakeOwn
import Derived.Laws.NewFold
import Derived.Great.BuildSlice
set_option linter.all false
set_option linter.constructorNameAsVariable false
set_option linter.defProp false
set_option linter.unusedVariables false
set_option linter.unusedSimpArgs false
namespace Go.Proofs.Abs
open Go

/-! ### Constants, operands -/
def constOK1 : Value → AV → Bool
  | .bool b, .bool b' => b == b'
  | .int k n, .int k' n' => decide (k = k') && n == n'
  | .string s, .str s' => decide (s = s')
  | .slice none 0 0, .nils => true
  | .slice none 0 0, .list sz [] => decide (0 < sz)
  | .pointer none, .nilp => true
  | .nilIface, .nili => true
  | .nilFunc, .nilf => true
  | .map none, .nilm => true
  | _, _ => false
def constCells : List Value → List AV → Bool
  | [], [] => true
  | v :: vs, x :: xs => constOK1 v x && constCells vs xs
  | _, _ => false
def constOK : Value → AV → Bool
  | .agg cs, .agg l => constCells cs.toList l
  | v, x => constOK1 v x
def opdOK : Operand → AX → Bool
  | .tmp t, .t i => t == i
  | .const v, .k x => constOK v x
  | .func f, .k (.func g []) => f == g
  | _, _ => false
def opdOKo : Option Operand → Option AX → Bool
  | none, none => true
  | some x, some y => opdOK x y
  | _, _ => false
def opdsOK : List Operand → List AX → Bool
  | [], [] => true
  | x :: xs, y :: ys => opdOK x y && opdsOK xs ys
  | _, _ => false

theorem rep_const1 (C : Ctx) {v : Value} {x : AV} (h : constOK1 v x = true) : Rep C x v ∧ isCell x = true := by
  unfold constOK1 at h
  split at h
  · simp only [beq_iff_eq] at h; subst h; exact ⟨.bool _, rfl⟩
  · simp only [Bool.and_eq_true, decide_eq_true_eq, beq_iff_eq] at h
    obtain ⟨rfl, rfl⟩ := h
    exact ⟨.int _ _, rfl⟩
  · simp only [decide_eq_true_eq] at h; subst h; exact ⟨.str _, rfl⟩
  · exact ⟨.nils, rfl⟩
  · exact ⟨.list _ [] none 0 (fun _ => undef) (of_decide_eq_true h) (Nat.le_refl _) (fun _ => rfl) (by simp) (by simp) (by simp) (by simp), rfl⟩
  · exact ⟨.nilp, rfl⟩
  · exact ⟨.nili, rfl⟩
  · exact ⟨.nilf, rfl⟩
  · exact ⟨.nilm, rfl⟩
  · cases h

theorem rep_constCells (C : Ctx) : ∀ {vs : List Value} {xs : List AV}, constCells vs xs = true → RepL C xs vs ∧ Cells xs
  | [], [], _ => ⟨⟨rfl, by simp⟩, by intro j av; simp⟩
  | v :: vs, x :: xs, h => by
    simp only [constCells, Bool.and_eq_true] at h
    obtain ⟨h1, h2⟩ := rep_const1 C h.1
    obtain ⟨h3, h4⟩ := rep_constCells C h.2
    refine ⟨⟨by simp [h3.1], fun j av v' e e' => ?_⟩, fun j av e => ?_⟩
    · cases j with
      | zero => simp at e e'; subst e; subst e'; exact h1
      | succ j => simp at e e'; exact h3.2 j _ _ e e'
    · cases j with
      | zero => simp at e; subst e; exact h2
      | succ j => simp at e; exact h4 j _ e
  | [], _ :: _, h => by simp [constCells] at h
  | _ :: _, [], h => by simp [constCells] at h

theorem rep_const (C : Ctx) {v : Value} {x : AV} (h : constOK v x = true) : Rep C x v := by
  unfold constOK at h
  split at h
  · rename_i cs l
    obtain ⟨h1, h2⟩ := rep_constCells C h
    have := Rep.agg (C := C) l cs.toList h1.1 h2 h1.2
    simpa using this
  · exact (rep_const1 C h).1

/-- The frame's relation to an environment. -/
structure SimE (nt : Nat) (env : Env) (C : Ctx) (a : Act) : Prop where
  size : a.tmps.size = nt
  defers : a.defers = []
  env : ∀ i, Rep C (eget env i) (a.tmps.getD i undef)

theorem SimE.ext {nt : Nat} {env : Env} {C C' : Ctx} {a : Act} (h : SimE nt env C a) (e : Ext C C') : SimE nt env C' a := ⟨h.size, h.defers, fun i => (h.env i).ext e⟩

theorem rep_opd {nt : Nat} {env : Env} {C : Ctx} {a : Act} (h : SimE nt env C a) {x : Operand} {y : AX} (hx : opdOK x y = true) : Rep C (y.ev env) (a.eval x) := by
  unfold opdOK at hx
  split at hx
  · simp only [beq_iff_eq] at hx; subst hx; exact h.env _
  · exact rep_const C hx
  · simp only [beq_iff_eq] at hx; subst hx
    exact Rep.func _ [] [] rfl (by simp)
  · cases hx

/-! ### What is read off a value -/
section
variable {C : Ctx} {v : Value}
theorem Rep.bool_inv {b : Bool} (h : Rep C (.bool b) v) : v = .bool b := by cases h; rfl
theorem Rep.int_inv {k : IntKind} {n : Int} (h : Rep C (.int k n) v) : v = .int k n := by cases h; rfl
theorem Rep.str_inv {s : ByteArray} (h : Rep C (.str s) v) : v = .string s := by cases h; rfl
theorem Rep.agg_inv {cs : List AV} (h : Rep C (.agg cs) v) : ∃ vs : List Value, v = .agg vs.toArray ∧ RepL C cs vs ∧ Cells cs := by
  cases h with
  | agg _ vs hl hc hv => exact ⟨vs, rfl, ⟨hl, hv⟩, hc⟩
theorem Rep.tuple_inv {cs : List AV} (h : Rep C (.tuple cs) v) : ∃ vs : List Value, v = .tuple vs.toArray ∧ RepL C cs vs := by
  cases h with
  | tuple _ vs hl hv => exact ⟨vs, rfl, hl, hv⟩
theorem Rep.func_inv {f : Nat} {cs : List AV} (h : Rep C (.func f cs) v) : ∃ vs : List Value, v = .func (.func f) #[] vs.toArray ∧ RepL C cs vs := by
  cases h with
  | func _ _ vs hl hv => exact ⟨vs, rfl, hl, hv⟩

theorem Rep.cell {av : AV} (h : Rep C av v) (hc : isCell av = true) : v.oneCell' = true ∧ v.cells = #[v] := by
  cases h with
  | undef => cases hc
  | agg => cases hc
  | tuple => cases hc
  | own id n v ha hs ho => obtain ⟨a, l, c, rfl⟩ := hs; exact ⟨rfl, rfl⟩
  | ref id n i j v ha hs ho => obtain ⟨a, rfl⟩ := hs; exact ⟨rfl, rfl⟩
  | map id v ha hs ho => obtain ⟨a, rfl⟩ := hs; exact ⟨rfl, rfl⟩
  | _ => exact ⟨rfl, rfl⟩

theorem RepL.nil : RepL C [] [] := ⟨rfl, by simp⟩
theorem RepL.cons {x : AV} {xs : List AV} {vs : List Value} (h : Rep C x v) (h2 : RepL C xs vs) : RepL C (x :: xs) (v :: vs) := by
  refine ⟨by simp [h2.1], fun j av v' e e' => ?_⟩
  cases j with
  | zero => simp at e e'; subst e; subst e'; exact h
  | succ j => simp at e e'; exact h2.2 j _ _ e e'
theorem Cells.nil : Cells [] := by intro j av; simp
theorem Cells.cons {x : AV} {xs : List AV} (h : isCell x = true) (h2 : Cells xs) : Cells (x :: xs) := by
  intro j av e
  cases j with
  | zero => simp at e; subst e; exact h
  | succ j => simp at e; exact h2 j _ e
theorem Cells.mem {xs : List AV} (h : Cells xs) {x : AV} (hx : x ∈ xs) : isCell x = true := by
  obtain ⟨j, hj, e⟩ := List.getElem_of_mem hx
  exact h j x (by rw [List.getElem?_eq_getElem hj, e])
theorem RepL.app {xs ys : List AV} {vs us : List Value} (h : RepL C xs vs) (h2 : RepL C ys us) : RepL C (xs ++ ys) (vs ++ us) := by
  refine ⟨by simp [h.1, h2.1], fun j av v' e e' => ?_⟩
  by_cases hj : j < xs.length
  · rw [List.getElem?_append_left hj] at e
    rw [List.getElem?_append_left (by rw [← h.1]; exact hj)] at e'
    exact h.2 j _ _ e e'
  · rw [List.getElem?_append_right (by omega)] at e
    rw [List.getElem?_append_right (by rw [← h.1]; omega), ← h.1] at e'
    exact h2.2 _ _ _ e e'
theorem Cells.app {xs ys : List AV} (h : Cells xs) (h2 : Cells ys) : Cells (xs ++ ys) := by
  intro j av e
  by_cases hj : j < xs.length
  · rw [List.getElem?_append_left hj] at e; exact h j _ e
  · rw [List.getElem?_append_right (by omega)] at e; exact h2 _ _ e
theorem RepL.take {xs : List AV} {vs : List Value} (h : RepL C xs vs) (n : Nat) : RepL C (xs.take n) (vs.take n) := by
  refine ⟨by simp [h.1], fun j av v' e e' => ?_⟩
  rw [List.getElem?_take] at e e'
  split at e
  · rename_i hj; rw [if_pos hj] at e'; exact h.2 j _ _ e e'
  · cases e
theorem RepL.drop {xs : List AV} {vs : List Value} (h : RepL C xs vs) (n : Nat) : RepL C (xs.drop n) (vs.drop n) := by
  refine ⟨by simp [h.1], fun j av v' e e' => ?_⟩
  rw [List.getElem?_drop] at e e'
  exact h.2 _ _ _ e e'
theorem Cells.take {xs : List AV} (h : Cells xs) (n : Nat) : Cells (xs.take n) := by
  intro j av e
  rw [List.getElem?_take] at e
  split at e
  · exact h j _ e
  · cases e
theorem Cells.drop {xs : List AV} (h : Cells xs) (n : Nat) : Cells (xs.drop n) := by
  intro j av e
  rw [List.getElem?_drop] at e
  exact h _ _ e

theorem cellsOf_rep {av : AV} (h : Rep C av v) {cs : List AV} (hc : cellsOf av = some cs) : RepL C cs v.cells.toList ∧ Cells cs := by
  by_cases hk : isCell av = true
  · have hcs : cs = [av] := by
      cases av <;> simp_all [cellsOf, isCell]
    subst hcs
    rw [(h.cell hk).2]
    exact ⟨.cons h .nil, .cons hk .nil⟩
  · cases h with
    | agg cs' vs hl hc' hv =>
      simp only [cellsOf, Option.some.injEq] at hc
      subst hc
      exact ⟨⟨hl, hv⟩, hc'⟩
    | undef => simp [cellsOf] at hc
    | tuple => simp [cellsOf] at hc
    | _ => simp [isCell] at hk

/-- What was loaded. -/
theorem ofCells_rep {agg : Bool} {cs : List AV} {vs : List Value} {av : AV} (h : RepL C cs vs) (hc : Cells cs) (ho : ofCells agg cs = some av) : (agg = true ∧ Rep C av (.agg vs.toArray)) ∨ (agg = false ∧ ∃ u, vs = [u] ∧ Rep C av u) := by
  unfold ofCells at ho
  cases agg with
  | true =>
    simp only [if_true, Option.some.injEq] at ho
    subst ho
    exact .inl ⟨rfl, .agg cs vs h.1 hc h.2⟩
  | false =>
    simp only [Bool.false_eq_true, if_false] at ho
    split at ho
    · rename_i v'
      injection ho with ho
      subst ho
      have hl : vs.length = 1 := by have := h.1; simp at this; omega
      obtain ⟨u, rfl⟩ := List.length_eq_one_iff.1 hl
      exact .inr ⟨rfl, u, rfl, h.2 0 _ _ rfl rfl⟩
    · cases ho
end

/-! ### The program's tables -/
def sizeIs (P : Program) (t m : Nat) : Bool := match P.info? t with
  | some i => i.size == m
  | none => false
def bytesIs (P : Program) (t m : Nat) : Bool := match P.info? t with
  | some i => i.bytes == m
  | none => false
def aggIs (P : Program) (t : Nat) (b : Bool) : Bool := match P.underlying t with
  | some (.struct _) | some (.array _ _) => b
  | some _ => !b
  | none => false
def zeroIs (P : Program) (t : Nat) (l : List AV) : Bool := match P.info? t with
  | some i => match i.zero with
    | some z => constCells z.cells.toList l
    | none => false
  | none => false
def sliceIs (P : Program) (t e : Nat) : Bool := match P.underlying t with
  | some (.slice e') => e' == e
  | _ => false

theorem sizeIs_iff {P : Program} {t m : Nat} (h : sizeIs P t m = true) : ∃ i, P.info? t = some i ∧ i.size = m := by
  unfold sizeIs at h
  split at h
  · rename_i i e; exact ⟨i, e, by simpa using h⟩
  · cases h
theorem bytesIs_iff {P : Program} {t m : Nat} (h : bytesIs P t m = true) : ∃ i, P.info? t = some i ∧ i.bytes = m := by
  unfold bytesIs at h
  split at h
  · rename_i i e; exact ⟨i, e, by simpa using h⟩
  · cases h
theorem zeroIs_iff {P : Program} {t : Nat} {l : List AV} (h : zeroIs P t l = true) : ∃ i z, P.info? t = some i ∧ i.zero = some z ∧ constCells z.cells.toList l = true := by
  unfold zeroIs at h
  split at h
  · rename_i i e
    split at h
    · rename_i z e2; exact ⟨i, z, e, e2, h⟩
    · cases h
  · cases h
theorem sliceIs_iff {P : Program} {t e : Nat} (h : sliceIs P t e = true) : P.underlying t = some (.slice e) := by
  unfold sliceIs at h
  split at h
  · rename_i e' h'; simp at h; subst h; exact h'
  · cases h
theorem run_isAgg {P : Program} {t : Nat} {b : Bool} (h : aggIs P t b = true) (w : World) : (isAgg t).run P w = .ok b w := by
  unfold aggIs at h
  split at h
  · rename_i fs e; subst h; simp [isAgg, run_underlying e]
  · rename_i n e' e; subst h; simp [isAgg, run_underlying e]
  · rename_i d h1 h2 e
    simp at h; subst h
    simp only [isAgg, Sem.run_bind, run_underlying e, Result.andThen_ok]
    rfl
  · cases h
theorem run_sizeOf' {P : Program} {t m : Nat} (h : sizeIs P t m = true) (w : World) : (sizeOf t).run P w = .ok m w := by
  obtain ⟨i, e, rfl⟩ := sizeIs_iff h
  simp [sizeOf, typeInfo, e]
theorem run_zeroValue' {P : Program} {t : Nat} {i : TypeInfo} {z : Value} (h : P.info? t = some i) (hz : i.zero = some z) (w : World) : (zeroValue t).run P w = .ok z w := by
  simp [zeroValue, typeInfo, h, hz]

end Go.Proofs.Abs
