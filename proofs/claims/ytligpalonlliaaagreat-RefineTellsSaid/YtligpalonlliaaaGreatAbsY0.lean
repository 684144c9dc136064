/- A part of a proof: the text that states the row tells what is proved. No condition is laid on anything. -/
import Derived.Test.YtligpalonlliaaaGreatAbsE2
set_option linter.all false
set_option linter.constructorNameAsVariable false
set_option linter.defProp false
set_option linter.unusedVariables false
set_option linter.unusedSimpArgs false
namespace Go.Proofs.Abs
open Go
/-! ### The set of ranges, as the code makes it -/
def addS (s : List (Int × Int)) (r : Int × Int) : List (Int × Int) :=
  if s.length = 0 ∨ apartS (s.getD (s.length - 1) (0, 0)) r = true then s ++ [r] else s.set (s.length - 1) ((s.getD (s.length - 1) (0, 0)).1, if (s.getD (s.length - 1) (0, 0)).2 < r.2 then r.2 else (s.getD (s.length - 1) (0, 0)).2)
def ofA : List (Int × Int) → List (Int × Int) → Option (List (Int × Int))
  | s, [] => some s
  | s, r :: l => if wholeS r = true then ofA (addS s r) l else none
def ofV (l : List (Int × Int)) : List (Int × Int) := (ofA [] (Rg.sortZ l)).getD []
def ofB (l : List (Int × Int)) : Bool := (ofA [] (Rg.sortZ l)).isSome
theorem ofA_snoc : ∀ (l : List (Int × Int)) (s : List (Int × Int)) (r : Int × Int) {u : List (Int × Int)}, ofA s l = some u → ofA s (l ++ [r]) = if wholeS r = true then some (addS u r) else none
  | [], s, r, u, h => by
    simp only [ofA, Option.some.injEq] at h
    subst h
    simp [ofA]
  | x :: l, s, r, u, h => by
    simp only [ofA] at h
    split at h
    · rename_i hx
      simp only [List.cons_append, ofA, hx, if_true]
      exact ofA_snoc l _ r h
    · cases h
theorem ofA_bad : ∀ (l : List (Int × Int)) (s : List (Int × Int)) {i : Nat}, i < l.length → wholeS (l.getD i (0, 0)) = false → ofA s l = none
  | [], _, _, h, _ => by simp at h
  | x :: l, s, i, h, hb => by
    unfold ofA
    split
    · rename_i hx
      match i with
      | 0 => simp [hx] at hb
      | i + 1 => exact ofA_bad l _ (by simpa using h) (by simpa using hb)
    · rfl
theorem addS_length (s : List (Int × Int)) (r : Int × Int) : (addS s r).length ≤ s.length + 1 := by
  unfold addS
  split <;> simp
theorem ofA_length : ∀ (l s u : List (Int × Int)), ofA s l = some u → u.length ≤ s.length + l.length
  | [], s, u, h => by
    simp only [ofA, Option.some.injEq] at h
    subst h; simp
  | r :: l, s, u, h => by
    simp only [ofA] at h
    split at h
    · have := ofA_length l _ u h
      have := addS_length s r
      simp only [List.length_cons]
      omega
    · cases h
theorem take_snoc {l : List (Int × Int)} {j : Nat} (h : j < l.length) : l.take (j + 1) = l.take j ++ [l.getD j (0, 0)] := by
  rw [List.take_succ_eq_append_getElem h]
  simp [List.getElem?_eq_getElem h]
/-! The oracle of slices.SortedFunc at its arguments. -/
theorem e85 (q : Id) (id : Id) (n : Nat) (H : Heap) (l : List (Int × Int)) (h : hget H id = some (.box [(AV.list 2 (List.map (fun x => [AV.int .i64 x.1, AV.int .i64 x.2]) (l)))])) (hl : l.length ≤ 1000000) :
    sfSpec q [.func 69 [.ref id 1 n 0], .func 53 []] H = some (.own (q ++ [0]) l.length, hadd H (q ++ [0]) (.row true true 55 2 (List.map (fun x => [AV.int .i64 x.1, AV.int .i64 x.2]) (Rg.sortZ l)))) := by
  have h' : boxRg ((AV.list 2 (List.map (fun x => [AV.int .i64 x.1, AV.int .i64 x.2]) (l)))) = some l := rgOf_rows l
  simp only [sfSpec, h, h', if_pos hl]
  rfl
end Go.Proofs.Abs
