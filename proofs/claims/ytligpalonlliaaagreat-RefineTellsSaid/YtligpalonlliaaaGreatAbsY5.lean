/- A part of a proof: the text that states the row tells what is proved. No condition is laid on anything. -/
import Derived.Test.YtligpalonlliaaaGreatAbsY1
import Derived.Test.YtligpalonlliaaaGreatAbsY3
import Derived.Test.YtligpalonlliaaaGreatAbsY4
set_option linter.all false
set_option linter.constructorNameAsVariable false
set_option linter.defProp false
set_option linter.unusedVariables false
set_option linter.unusedSimpArgs false
set_option maxRecDepth 100000
set_option maxHeartbeats 16000000
namespace Go.Proofs.Abs
open Go
noncomputable def s0 : FT := t4
theorem s0_ok : FTOK Tryz.prog s0 := t4_ok
noncomputable def s1 : FT := upd (upd (upd (s0) 28 k48.ora) 39 k62.ora) 22 k63.ora
theorem s1_ok : FTOK Tryz.prog s1 := upd_ok2 (f := 22) (upd_ok2 (f := 39) (upd_ok2 (f := 28) (s0_ok) ook48) ook62) ook63

/-! 15: caesuralaw03.SetsOf. -/
def badS (l : List R2) : Bool := l.any fun r => !wholeS r
def inS (v : Int) (l : List R2) : Bool := l.any (inR v)
theorem inS_iff {v : Int} {l : List R2} : inS v l = true ↔ memS l v := by simp [inS, memS, inR]
theorem badS_iff {l : List R2} : badS l = false ↔ ∀ r ∈ l, wholeS r = true := by simp [badS]
theorem badS_snoc (l : List R2) (r : R2) : badS (l ++ [r]) = (badS l || !wholeS r) := by simp [badS]
theorem inS_snoc (v : Int) (l : List R2) (r : R2) : inS v (l ++ [r]) = (inS v l || inR v r) := by simp [inS]
theorem hasS_iff {s : List R2} {v : Int} : hasS s v = (goodS s && isS v && inS v s) := by
  unfold hasS
  congr 1
  rw [Bool.eq_iff_iff, inS_iff, List.any_eq_true]
  constructor
  · rintro ⟨i, hi, h⟩
    have hi := List.mem_range.1 hi
    rw [getD_eq hi] at h
    exact ⟨_, List.getElem_mem hi, by simpa [inR] using h⟩
  · rintro ⟨r, hr, h⟩
    obtain ⟨i, hi, rfl⟩ := List.getElem_of_mem hr
    exact ⟨i, List.mem_range.2 hi, by rw [getD_eq hi]; simpa [inR] using h⟩
end Go.Proofs.Abs
