/- A part of a proof: the text that states the row tells what is proved. No condition is laid on anything. -/
import Derived.Test.YtligpalonlliaaaGreatAbsZ19
import Derived.Test.YtligpalonlliaaaGreatAbsZ11
set_option linter.all false
set_option linter.constructorNameAsVariable false
set_option linter.defProp false
set_option linter.unusedVariables false
set_option linter.unusedSimpArgs false
set_option maxRecDepth 100000
set_option maxHeartbeats 16000000
namespace Go.Proofs.Abs
open Go
/-! 1002: caesuralaw04.RefineMore. -/
noncomputable def r13 : FT := upd (r10) 20 k54.ora
theorem r13_ok : FTOK Tryz.prog r13 := upd_ok2 (f := 20) (r10_ok) ook54

def hasW (w : List R2) (B : List (List R2)) (n : Nat) : Bool := (B.take n).any fun x => decide (x = w)
theorem hasW_next {w : List R2} {B : List (List R2)} {n : Nat} (h : n < B.length) : hasW w B (n + 1) = (hasW w B n || decide (B.getD n [] = w)) := by
  unfold hasW
  rw [takeL_snoc h, List.any_append]
  simp
theorem hasW_all {w : List R2} {B : List (List R2)} (h : w ∈ B) : hasW w B B.length = true := by
  unfold hasW
  rw [List.take_length, List.any_eq_true]
  exact ⟨w, h, by simp⟩
def wantK (s a : List R2) (k : Nat) : List R2 := if k = 1 then bothS a (notS s) else bothS a s
def cntK (s a : List R2) (k : Nat) : Nat := ((List.range k).filter fun k => !decide (wantK s a k = [])).length
theorem cntK_next (s a : List R2) (k : Nat) : cntK s a (k + 1) = cntK s a k + if wantK s a k = [] then 0 else 1 := by
  unfold cntK
  rw [List.range_succ, List.filter_append, List.length_append]
  by_cases h : wantK s a k = []
  · simp [h]
  · simp [h]
theorem cntK_two (s a : List R2) : cntK s a 2 = (wantL s a).length := by
  rw [cntK_next, cntK_next]
  have h0 : cntK s a 0 = 0 := rfl
  have h1 : wantK s a 0 = bothS a s := rfl
  have h2 : wantK s a (0 + 1) = bothS a (notS s) := rfl
  rw [h0, h1, h2]
  unfold wantL
  by_cases e1 : bothS a s = [] <;> by_cases e2 : bothS a (notS s) = [] <;> simp [e1, e2]
theorem cntK_le (s a : List R2) (k : Nat) : cntK s a k ≤ k := by
  unfold cntK
  exact Nat.le_trans (List.length_filter_le _ _) (by simp)
theorem wantK_in {s a : List R2} {k : Nat} (h : wantK s a k ≠ []) : wantK s a k ∈ wantL s a := by
  refine mem_wantL.2 ⟨?_, h⟩
  unfold wantK
  split
  · exact .inr rfl
  · exact .inl rfl
def cntA (s : List R2) (A : List (List R2)) (i : Nat) : Nat := ((A.take i).flatMap (wantL s)).length
theorem cntA_next {s : List R2} {A : List (List R2)} {i : Nat} (h : i < A.length) : cntA s A (i + 1) = cntA s A i + (wantL s (A.getD i [])).length := by
  unfold cntA
  rw [takeL_snoc h, List.flatMap_append, List.length_append]
  simp
theorem cntA_le (s : List R2) (A : List (List R2)) : ∀ i, i ≤ A.length → cntA s A i ≤ 2 * i
  | 0, _ => by simp [cntA]
  | i + 1, h => by
    have h1 := cntA_le s A i (by omega)
    have h2 := cntA_next (s := s) (A := A) (i := i) (by omega)
    have h3 := cntK_two s (A.getD i [])
    have h4 := cntK_le s (A.getD i []) 2
    omega
theorem lenS_le2 {l : List (List R2)} {s : List R2} (h : s ∈ l) : s.length ≤ lenS l := by
  obtain ⟨a, b, rfl⟩ := List.append_of_mem h
  simp [lenS]
  omega
theorem fair_dom2 {l : List (List R2)} (h : fairB l = true) : l.length ≤ 150 ∧ lenS l ≤ 150 := by
  have h1 : fairN l ≤ 150 := by simpa [fairB] using h
  have h2 := fairN_len l
  refine ⟨by omega, ?_⟩
  have : ∀ l : List (List R2), fairN l ≤ 150 → lenS l ≤ fairN l := by
    intro l
    induction l with
    | nil => intro _; simp [lenS, fairN]
    | cons s l ih =>
      intro h
      simp only [fairN, List.map_cons, List.sum_cons] at h ⊢
      simp only [lenS, List.map_cons, List.sum_cons]
      have := ih (by simp only [fairN]; omega)
      simp only [lenS, fairN] at this
      omega
  have := this l h1
  omega
theorem lenS_app (a b : List (List R2)) : lenS (a ++ b) = lenS a + lenS b := by simp [lenS]
theorem tail1002 (l A B : List (List R2)) (s : List R2) (G : Fr) (gs : goodS s = true) (hs40 : s.length ≤ 40) (hAl : A.length ≤ 256) (hBl : B.length ≤ 256) (hAs : ∀ t ∈ A, t.length ≤ 400) (hBs : ∀ t ∈ B, t.length ≤ 9223372036854775807)
    (e14 : ∀ (q0 : Id) (H0 : Heap), k1014.ora q0 [(AV.list 1 (List.map (fun s => [(AV.list 2 (List.map (fun x => [AV.int .i64 x.1, AV.int .i64 x.2]) (s)))]) (A))), (AV.list 1 (List.map (fun s => [(AV.list 2 (List.map (fun x => [AV.int .i64 x.1, AV.int .i64 x.2]) (s)))]) (A)))] H0 = some (.bool true, H0)) (hAg : ∀ t ∈ A, goodS t = true) (hin : ∀ w, w ∈ A.flatMap (wantL s) ↔ w ∈ B) (hcnt : B.length = (A.flatMap (wantL s)).length) :
    run r13 c1002_3 [] (fun x s => ob (bodyRes fn1002 x s) fun r => r.1 = .bool true ∧ r.2 = [])
      { env := [(0, (AV.list 1 (List.map (fun s => [(AV.list 2 (List.map (fun x => [AV.int .i64 x.1, AV.int .i64 x.2]) (s)))]) (l)))), (1, (AV.list 2 (List.map (fun x => [AV.int .i64 x.1, AV.int .i64 x.2]) (s)))), (4, .bool false), (5, .int .i64 l.length), (6, (AV.list 1 (List.map (fun s => [(AV.list 2 (List.map (fun x => [AV.int .i64 x.1, AV.int .i64 x.2]) (s)))]) (A)))), (7, .bool true), (8, (AV.list 1 (List.map (fun s => [(AV.list 2 (List.map (fun x => [AV.int .i64 x.1, AV.int .i64 x.2]) (s)))]) (B)))), (9, .bool true), (10, (AV.list 1 (List.map (fun s => [(AV.list 2 (List.map (fun x => [AV.int .i64 x.1, AV.int .i64 x.2]) (s)))]) (A)))), (11, .bool true)], heap := [G], p := [], k := 49 } := by
  have hnl := not_len s
  simp only [c1002_3, D0, ains, appG, clsOf, abin, aint, aun, dnext, rowsOf, loadObj, cellsOf, ofCells, bnd, hmerge, Nat.reduceBEq, Nat.reduceAdd, reduceIte, Nat.reduceEqDiff, Nat.reduceLeDiff, Int.reduceEq, reduceCtorEq, Int.reduceBEq, Int.reduceBNe, Int.reduceLT, Int.reduceNeg, @use_all r13 16 k1014.ora rfl, e14]
  refine lg_rule (fun i e H => e = [(0, (AV.list 1 (List.map (fun s => [(AV.list 2 (List.map (fun x => [AV.int .i64 x.1, AV.int .i64 x.2]) (s)))]) (l)))), (1, (AV.list 2 (List.map (fun x => [AV.int .i64 x.1, AV.int .i64 x.2]) (s)))), (4, .bool false), (5, .int .i64 l.length), (6, (AV.list 1 (List.map (fun s => [(AV.list 2 (List.map (fun x => [AV.int .i64 x.1, AV.int .i64 x.2]) (s)))]) (A)))), (7, .bool true), (8, (AV.list 1 (List.map (fun s => [(AV.list 2 (List.map (fun x => [AV.int .i64 x.1, AV.int .i64 x.2]) (s)))]) (B)))), (9, .bool true), (10, (AV.list 1 (List.map (fun s => [(AV.list 2 (List.map (fun x => [AV.int .i64 x.1, AV.int .i64 x.2]) (s)))]) (A)))), (11, .bool true), (12, .int .i64 (cntA s A i)), (13, .int .i64 i)] ∧ H = [G] ∧ i ≤ A.length) A.length ?_ ?_
  · exact ⟨rfl, rfl, by simp⟩
  rintro i e H ⟨rfl, rfl, hi⟩
  simp only [D0, ains, appG, clsOf, abin, aint, aun, dnext, rowsOf, loadObj, cellsOf, ofCells, bnd, hmerge, Nat.reduceBEq, Nat.reduceAdd, reduceIte, Nat.reduceEqDiff, Nat.reduceLeDiff, Int.reduceEq, reduceCtorEq, Int.reduceBEq, Int.reduceBNe, Int.reduceLT, Int.reduceNeg]
  by_cases h : i < A.length
  · have h' : (i : Int) < (A.length : Int) := by omega
    have hp := wrapp (j := i) (by omega)
    have hg := map_get (f := fun s : List R2 => [(AV.list 2 (List.map (fun x => [AV.int .i64 x.1, AV.int .i64 x.2]) (s)))]) h []
    have hmA := getD_memP h
    have hsl := hAs _ hmA
    have hag := hAg _ hmA
    have hcA := cntA_le s A i hi
    have hcN := cntA_next (s := s) h
    have hWB : ∀ k, wantK s (A.getD i []) k ≠ [] → wantK s (A.getD i []) k ∈ B := fun k hk => (hin _).1 (List.mem_flatMap.2 ⟨_, hmA, wantK_in hk⟩)
    generalize A.getD i [] = a at hg hsl hag hcN hWB
    generalize hN : cntA s A i = N at hcA hcN
    have hd1 : a.length + s.length ≤ 1000 := by omega
    have hd2 : a.length + (notS s).length ≤ 1000 := by omega
    have hs3 : s.length ≤ 1000 := by omega
    simp only [c1002_2, D0, ains, appG, clsOf, abin, aint, aun, dnext, rowsOf, loadObj, cellsOf, ofCells, bnd, hmerge, Nat.reduceBEq, Nat.reduceAdd, reduceIte, Nat.reduceEqDiff, Nat.reduceLeDiff, Int.reduceEq, reduceCtorEq, Int.reduceBEq, Int.reduceBNe, Int.reduceLT, Int.reduceNeg, @use_all r13 20 k54.ora rfl, e54, @use_all r13 21 k55.ora rfl, e55, h', hg, hp, hd1, hd2, hs3, lrc_x, apx, apart, apart1, needs, decide_true, Int.natCast_nonneg, Int.toNat_natCast, List.length_map]
    refine lg_rule (fun k e H => e = [(0, (AV.list 1 (List.map (fun s => [(AV.list 2 (List.map (fun x => [AV.int .i64 x.1, AV.int .i64 x.2]) (s)))]) (l)))), (1, (AV.list 2 (List.map (fun x => [AV.int .i64 x.1, AV.int .i64 x.2]) (s)))), (4, .bool false), (5, .int .i64 l.length), (6, (AV.list 1 (List.map (fun s => [(AV.list 2 (List.map (fun x => [AV.int .i64 x.1, AV.int .i64 x.2]) (s)))]) (A)))), (7, .bool true), (8, (AV.list 1 (List.map (fun s => [(AV.list 2 (List.map (fun x => [AV.int .i64 x.1, AV.int .i64 x.2]) (s)))]) (B)))), (9, .bool true), (10, (AV.list 1 (List.map (fun s => [(AV.list 2 (List.map (fun x => [AV.int .i64 x.1, AV.int .i64 x.2]) (s)))]) (A)))), (11, .bool true), (12, .int .i64 ((N + cntK s a k : Nat) : Int)), (13, .int .i64 i), (14, (AV.list 2 (List.map (fun x => [AV.int .i64 x.1, AV.int .i64 x.2]) (bothS a s)))), (15, (AV.list 2 (List.map (fun x => [AV.int .i64 x.1, AV.int .i64 x.2]) (bothS a (notS s))))), (16, .int .i64 k)] ∧ H = [[], G] ∧ k ≤ 2) 2 ?_ ?_
    · exact ⟨rfl, rfl, by simp⟩
    rintro k e H ⟨rfl, rfl, hk⟩
    have hcK := cntK_le s a k
    have hcKn := cntK_next s a k
    simp only [D0, ains, appG, clsOf, abin, aint, aun, dnext, rowsOf, loadObj, cellsOf, ofCells, bnd, hmerge, Nat.reduceBEq, Nat.reduceAdd, reduceIte, Nat.reduceEqDiff, Nat.reduceLeDiff, Int.reduceEq, reduceCtorEq, Int.reduceBEq, Int.reduceBNe, Int.reduceLT, Int.reduceNeg]
    by_cases hk2 : k < 2
    · have hk2' : (k : Int) < 2 := by omega
      have hpk := wrapp (j := k) (by omega)
      have hWk : wantK s a k = if (k : Int) = 1 then bothS a (notS s) else bothS a s := by
        unfold wantK
        by_cases e : k = 1
        · rw [if_pos e, if_pos (by omega)]
        · rw [if_neg e, if_neg (by omega)]
      have hWB := hWB k
      by_cases k1 : k = 1
      · have k1' : ((k : Int) == 1) = true := by simp [k1]
        rw [if_pos (by omega)] at hWk
        have hw0n : wantK s a k = bothS a (notS s) := hWk
        by_cases hw0 : (bothS a (notS s)).length = 0
        · have hw0' : (((bothS a (notS s)).length : Int) == 0) = true := by simp [hw0]
          have hwn : wantK s a k = [] := by rw [hw0n]; exact List.eq_nil_of_length_eq_zero hw0
          rw [if_pos hwn, Nat.add_zero] at hcKn
          simp only [D0, ains, appG, clsOf, abin, aint, aun, dnext, rowsOf, loadObj, cellsOf, ofCells, bnd, hmerge, Nat.reduceBEq, Nat.reduceAdd, reduceIte, Nat.reduceEqDiff, Nat.reduceLeDiff, Int.reduceEq, reduceCtorEq, Int.reduceBEq, Int.reduceBNe, Int.reduceLT, Int.reduceNeg, hk2', hpk, k1', hw0', decide_true, List.length_map]
          simp only [F1, bodyRes, one, ains, appG, clsOf, abin, aint, aun, dnext, rowsOf, loadObj, cellsOf, ofCells, bnd, hmerge, Nat.reduceBEq, Nat.reduceAdd, reduceIte, Nat.reduceEqDiff, Nat.reduceLeDiff, Int.reduceEq, reduceCtorEq, Int.reduceBEq, Int.reduceBNe, Int.reduceLT, Int.reduceNeg]
          exact ⟨hk2, by rw [hcKn, Nat.add_zero], by omega⟩
        · have hw0' : (((bothS a (notS s)).length : Int) == 0) = false := beq_eq_false_iff_ne.2 (by omega)
          have hwn : wantK s a k ≠ [] := by rw [hw0n]; intro e; rw [e] at hw0; exact hw0 rfl
          have hin := hWB hwn
          rw [if_neg hwn] at hcKn
          rw [hw0n] at hin
          have hn1 := wrapp (j := N + cntK s a k) (by omega)
          simp only [c1002_1, D0, ains, appG, clsOf, abin, aint, aun, dnext, rowsOf, loadObj, cellsOf, ofCells, bnd, hmerge, Nat.reduceBEq, Nat.reduceAdd, reduceIte, Nat.reduceEqDiff, Nat.reduceLeDiff, Int.reduceEq, reduceCtorEq, Int.reduceBEq, Int.reduceBNe, Int.reduceLT, Int.reduceNeg, hk2', hpk, k1', hw0', hn1, decide_true, List.length_map]
          refine lg_rule (fun j e H => e = [(0, (AV.list 1 (List.map (fun s => [(AV.list 2 (List.map (fun x => [AV.int .i64 x.1, AV.int .i64 x.2]) (s)))]) (l)))), (1, (AV.list 2 (List.map (fun x => [AV.int .i64 x.1, AV.int .i64 x.2]) (s)))), (4, .bool false), (5, .int .i64 l.length), (6, (AV.list 1 (List.map (fun s => [(AV.list 2 (List.map (fun x => [AV.int .i64 x.1, AV.int .i64 x.2]) (s)))]) (A)))), (7, .bool true), (8, (AV.list 1 (List.map (fun s => [(AV.list 2 (List.map (fun x => [AV.int .i64 x.1, AV.int .i64 x.2]) (s)))]) (B)))), (9, .bool true), (10, (AV.list 1 (List.map (fun s => [(AV.list 2 (List.map (fun x => [AV.int .i64 x.1, AV.int .i64 x.2]) (s)))]) (A)))), (11, .bool true), (12, .int .i64 ((N + cntK s a k + 1 : Nat) : Int)), (13, .int .i64 i), (14, (AV.list 2 (List.map (fun x => [AV.int .i64 x.1, AV.int .i64 x.2]) (bothS a s)))), (15, (AV.list 2 (List.map (fun x => [AV.int .i64 x.1, AV.int .i64 x.2]) (bothS a (notS s))))), (16, .int .i64 k), (17, (AV.list 2 (List.map (fun x => [AV.int .i64 x.1, AV.int .i64 x.2]) (bothS a (notS s))))), (18, .bool (hasW (bothS a (notS s)) B j)), (19, .int .i64 j)] ∧ H = [[], [], G] ∧ j ≤ B.length) B.length ?_ ?_
          · exact ⟨rfl, rfl, by simp⟩
          rintro j e H ⟨rfl, rfl, hj⟩
          simp only [D0, ains, appG, clsOf, abin, aint, aun, dnext, rowsOf, loadObj, cellsOf, ofCells, bnd, hmerge, Nat.reduceBEq, Nat.reduceAdd, reduceIte, Nat.reduceEqDiff, Nat.reduceLeDiff, Int.reduceEq, reduceCtorEq, Int.reduceBEq, Int.reduceBNe, Int.reduceLT, Int.reduceNeg]
          by_cases hjB : j < B.length
          · have hjB' : (j : Int) < (B.length : Int) := by omega
            have hpj := wrapp (j := j) (by omega)
            have hgj := map_get (f := fun s : List R2 => [(AV.list 2 (List.map (fun x => [AV.int .i64 x.1, AV.int .i64 x.2]) (s)))]) hjB []
            have hbl := hBs _ (getD_memP hjB)
            have hnx := hasW_next (w := bothS a (notS s)) hjB
            generalize B.getD j [] = b at hgj hbl hnx
            cases hh : hasW (bothS a (notS s)) B j with
            | true =>
              rw [hh, Bool.true_or] at hnx
              simp only [D0, ains, appG, clsOf, abin, aint, aun, dnext, rowsOf, loadObj, cellsOf, ofCells, bnd, hmerge, Nat.reduceBEq, Nat.reduceAdd, reduceIte, Nat.reduceEqDiff, Nat.reduceLeDiff, Int.reduceEq, reduceCtorEq, Int.reduceBEq, Int.reduceBNe, Int.reduceLT, Int.reduceNeg, hjB', hpj, decide_true]
              simp only [F1, bodyRes, one, ains, appG, clsOf, abin, aint, aun, dnext, rowsOf, loadObj, cellsOf, ofCells, bnd, hmerge, Nat.reduceBEq, Nat.reduceAdd, reduceIte, Nat.reduceEqDiff, Nat.reduceLeDiff, Int.reduceEq, reduceCtorEq, Int.reduceBEq, Int.reduceBNe, Int.reduceLT, Int.reduceNeg]
              exact ⟨hjB, by rw [hnx], hjB⟩
            | false =>
              rw [hh, Bool.false_or] at hnx
              simp only [D0, ains, appG, clsOf, abin, aint, aun, dnext, rowsOf, loadObj, cellsOf, ofCells, bnd, hmerge, Nat.reduceBEq, Nat.reduceAdd, reduceIte, Nat.reduceEqDiff, Nat.reduceLeDiff, Int.reduceEq, reduceCtorEq, Int.reduceBEq, Int.reduceBNe, Int.reduceLT, Int.reduceNeg, @use_all r13 22 k63.ora rfl, e63, hjB', hpj, hgj, hbl, decide_true, Int.natCast_nonneg, Int.toNat_natCast, List.length_map]
              simp only [F1, bodyRes, one, ains, appG, clsOf, abin, aint, aun, dnext, rowsOf, loadObj, cellsOf, ofCells, bnd, hmerge, Nat.reduceBEq, Nat.reduceAdd, reduceIte, Nat.reduceEqDiff, Nat.reduceLeDiff, Int.reduceEq, reduceCtorEq, Int.reduceBEq, Int.reduceBNe, Int.reduceLT, Int.reduceNeg]
              exact ⟨hjB, by rw [hnx], hjB⟩
          · have hjB' : ¬ (j : Int) < (B.length : Int) := by omega
            have hje : j = B.length := by omega
            have hwa : hasW (bothS a (notS s)) B j = true := by rw [hje]; exact hasW_all hin
            rw [hwa]
            simp only [D0, ains, appG, clsOf, abin, aint, aun, dnext, rowsOf, loadObj, cellsOf, ofCells, bnd, hmerge, Nat.reduceBEq, Nat.reduceAdd, reduceIte, Nat.reduceEqDiff, Nat.reduceLeDiff, Int.reduceEq, reduceCtorEq, Int.reduceBEq, Int.reduceBNe, Int.reduceLT, Int.reduceNeg, hjB', decide_false]
            refine .inr ⟨by simp, ?_⟩
            simp only [D0, ains, appG, clsOf, abin, aint, aun, dnext, rowsOf, loadObj, cellsOf, ofCells, bnd, hmerge, Nat.reduceBEq, Nat.reduceAdd, reduceIte, Nat.reduceEqDiff, Nat.reduceLeDiff, Int.reduceEq, reduceCtorEq, Int.reduceBEq, Int.reduceBNe, Int.reduceLT, Int.reduceNeg, hpk]
            simp only [F1, bodyRes, one, ains, appG, clsOf, abin, aint, aun, dnext, rowsOf, loadObj, cellsOf, ofCells, bnd, hmerge, Nat.reduceBEq, Nat.reduceAdd, reduceIte, Nat.reduceEqDiff, Nat.reduceLeDiff, Int.reduceEq, reduceCtorEq, Int.reduceBEq, Int.reduceBNe, Int.reduceLT, Int.reduceNeg]
            exact ⟨hk2, by rw [hcKn]; rfl, by omega⟩
      · have k1' : ((k : Int) == 1) = false := beq_eq_false_iff_ne.2 (by omega)
        rw [if_neg (by omega)] at hWk
        have hw0n : wantK s a k = bothS a s := hWk
        by_cases hw0 : (bothS a s).length = 0
        · have hw0' : (((bothS a s).length : Int) == 0) = true := by simp [hw0]
          have hwn : wantK s a k = [] := by rw [hw0n]; exact List.eq_nil_of_length_eq_zero hw0
          rw [if_pos hwn, Nat.add_zero] at hcKn
          simp only [D0, ains, appG, clsOf, abin, aint, aun, dnext, rowsOf, loadObj, cellsOf, ofCells, bnd, hmerge, Nat.reduceBEq, Nat.reduceAdd, reduceIte, Nat.reduceEqDiff, Nat.reduceLeDiff, Int.reduceEq, reduceCtorEq, Int.reduceBEq, Int.reduceBNe, Int.reduceLT, Int.reduceNeg, hk2', hpk, k1', hw0', decide_true, List.length_map]
          simp only [F1, bodyRes, one, ains, appG, clsOf, abin, aint, aun, dnext, rowsOf, loadObj, cellsOf, ofCells, bnd, hmerge, Nat.reduceBEq, Nat.reduceAdd, reduceIte, Nat.reduceEqDiff, Nat.reduceLeDiff, Int.reduceEq, reduceCtorEq, Int.reduceBEq, Int.reduceBNe, Int.reduceLT, Int.reduceNeg]
          exact ⟨hk2, by rw [hcKn, Nat.add_zero], by omega⟩
        · have hw0' : (((bothS a s).length : Int) == 0) = false := beq_eq_false_iff_ne.2 (by omega)
          have hwn : wantK s a k ≠ [] := by rw [hw0n]; intro e; rw [e] at hw0; exact hw0 rfl
          have hin := hWB hwn
          rw [if_neg hwn] at hcKn
          rw [hw0n] at hin
          have hn1 := wrapp (j := N + cntK s a k) (by omega)
          simp only [c1002_1, D0, ains, appG, clsOf, abin, aint, aun, dnext, rowsOf, loadObj, cellsOf, ofCells, bnd, hmerge, Nat.reduceBEq, Nat.reduceAdd, reduceIte, Nat.reduceEqDiff, Nat.reduceLeDiff, Int.reduceEq, reduceCtorEq, Int.reduceBEq, Int.reduceBNe, Int.reduceLT, Int.reduceNeg, hk2', hpk, k1', hw0', hn1, decide_true, List.length_map]
          refine lg_rule (fun j e H => e = [(0, (AV.list 1 (List.map (fun s => [(AV.list 2 (List.map (fun x => [AV.int .i64 x.1, AV.int .i64 x.2]) (s)))]) (l)))), (1, (AV.list 2 (List.map (fun x => [AV.int .i64 x.1, AV.int .i64 x.2]) (s)))), (4, .bool false), (5, .int .i64 l.length), (6, (AV.list 1 (List.map (fun s => [(AV.list 2 (List.map (fun x => [AV.int .i64 x.1, AV.int .i64 x.2]) (s)))]) (A)))), (7, .bool true), (8, (AV.list 1 (List.map (fun s => [(AV.list 2 (List.map (fun x => [AV.int .i64 x.1, AV.int .i64 x.2]) (s)))]) (B)))), (9, .bool true), (10, (AV.list 1 (List.map (fun s => [(AV.list 2 (List.map (fun x => [AV.int .i64 x.1, AV.int .i64 x.2]) (s)))]) (A)))), (11, .bool true), (12, .int .i64 ((N + cntK s a k + 1 : Nat) : Int)), (13, .int .i64 i), (14, (AV.list 2 (List.map (fun x => [AV.int .i64 x.1, AV.int .i64 x.2]) (bothS a s)))), (15, (AV.list 2 (List.map (fun x => [AV.int .i64 x.1, AV.int .i64 x.2]) (bothS a (notS s))))), (16, .int .i64 k), (17, (AV.list 2 (List.map (fun x => [AV.int .i64 x.1, AV.int .i64 x.2]) (bothS a s)))), (18, .bool (hasW (bothS a s) B j)), (19, .int .i64 j)] ∧ H = [[], [], G] ∧ j ≤ B.length) B.length ?_ ?_
          · exact ⟨rfl, rfl, by simp⟩
          rintro j e H ⟨rfl, rfl, hj⟩
          simp only [D0, ains, appG, clsOf, abin, aint, aun, dnext, rowsOf, loadObj, cellsOf, ofCells, bnd, hmerge, Nat.reduceBEq, Nat.reduceAdd, reduceIte, Nat.reduceEqDiff, Nat.reduceLeDiff, Int.reduceEq, reduceCtorEq, Int.reduceBEq, Int.reduceBNe, Int.reduceLT, Int.reduceNeg]
          by_cases hjB : j < B.length
          · have hjB' : (j : Int) < (B.length : Int) := by omega
            have hpj := wrapp (j := j) (by omega)
            have hgj := map_get (f := fun s : List R2 => [(AV.list 2 (List.map (fun x => [AV.int .i64 x.1, AV.int .i64 x.2]) (s)))]) hjB []
            have hbl := hBs _ (getD_memP hjB)
            have hnx := hasW_next (w := bothS a s) hjB
            generalize B.getD j [] = b at hgj hbl hnx
            cases hh : hasW (bothS a s) B j with
            | true =>
              rw [hh, Bool.true_or] at hnx
              simp only [D0, ains, appG, clsOf, abin, aint, aun, dnext, rowsOf, loadObj, cellsOf, ofCells, bnd, hmerge, Nat.reduceBEq, Nat.reduceAdd, reduceIte, Nat.reduceEqDiff, Nat.reduceLeDiff, Int.reduceEq, reduceCtorEq, Int.reduceBEq, Int.reduceBNe, Int.reduceLT, Int.reduceNeg, hjB', hpj, decide_true]
              simp only [F1, bodyRes, one, ains, appG, clsOf, abin, aint, aun, dnext, rowsOf, loadObj, cellsOf, ofCells, bnd, hmerge, Nat.reduceBEq, Nat.reduceAdd, reduceIte, Nat.reduceEqDiff, Nat.reduceLeDiff, Int.reduceEq, reduceCtorEq, Int.reduceBEq, Int.reduceBNe, Int.reduceLT, Int.reduceNeg]
              exact ⟨hjB, by rw [hnx], hjB⟩
            | false =>
              rw [hh, Bool.false_or] at hnx
              simp only [D0, ains, appG, clsOf, abin, aint, aun, dnext, rowsOf, loadObj, cellsOf, ofCells, bnd, hmerge, Nat.reduceBEq, Nat.reduceAdd, reduceIte, Nat.reduceEqDiff, Nat.reduceLeDiff, Int.reduceEq, reduceCtorEq, Int.reduceBEq, Int.reduceBNe, Int.reduceLT, Int.reduceNeg, @use_all r13 22 k63.ora rfl, e63, hjB', hpj, hgj, hbl, decide_true, Int.natCast_nonneg, Int.toNat_natCast, List.length_map]
              simp only [F1, bodyRes, one, ains, appG, clsOf, abin, aint, aun, dnext, rowsOf, loadObj, cellsOf, ofCells, bnd, hmerge, Nat.reduceBEq, Nat.reduceAdd, reduceIte, Nat.reduceEqDiff, Nat.reduceLeDiff, Int.reduceEq, reduceCtorEq, Int.reduceBEq, Int.reduceBNe, Int.reduceLT, Int.reduceNeg]
              exact ⟨hjB, by rw [hnx], hjB⟩
          · have hjB' : ¬ (j : Int) < (B.length : Int) := by omega
            have hje : j = B.length := by omega
            have hwa : hasW (bothS a s) B j = true := by rw [hje]; exact hasW_all hin
            rw [hwa]
            simp only [D0, ains, appG, clsOf, abin, aint, aun, dnext, rowsOf, loadObj, cellsOf, ofCells, bnd, hmerge, Nat.reduceBEq, Nat.reduceAdd, reduceIte, Nat.reduceEqDiff, Nat.reduceLeDiff, Int.reduceEq, reduceCtorEq, Int.reduceBEq, Int.reduceBNe, Int.reduceLT, Int.reduceNeg, hjB', decide_false]
            refine .inr ⟨by simp, ?_⟩
            simp only [D0, ains, appG, clsOf, abin, aint, aun, dnext, rowsOf, loadObj, cellsOf, ofCells, bnd, hmerge, Nat.reduceBEq, Nat.reduceAdd, reduceIte, Nat.reduceEqDiff, Nat.reduceLeDiff, Int.reduceEq, reduceCtorEq, Int.reduceBEq, Int.reduceBNe, Int.reduceLT, Int.reduceNeg, hpk]
            simp only [F1, bodyRes, one, ains, appG, clsOf, abin, aint, aun, dnext, rowsOf, loadObj, cellsOf, ofCells, bnd, hmerge, Nat.reduceBEq, Nat.reduceAdd, reduceIte, Nat.reduceEqDiff, Nat.reduceLeDiff, Int.reduceEq, reduceCtorEq, Int.reduceBEq, Int.reduceBNe, Int.reduceLT, Int.reduceNeg]
            exact ⟨hk2, by rw [hcKn]; rfl, by omega⟩
    · have hk2' : ¬ (k : Int) < 2 := by omega
      have hke : k = 2 := by omega
      subst hke
      rw [cntK_two] at hcK ⊢
      simp only [D0, ains, appG, clsOf, abin, aint, aun, dnext, rowsOf, loadObj, cellsOf, ofCells, bnd, hmerge, Nat.reduceBEq, Nat.reduceAdd, reduceIte, Nat.reduceEqDiff, Nat.reduceLeDiff, Int.reduceEq, reduceCtorEq, Int.reduceBEq, Int.reduceBNe, Int.reduceLT, Int.reduceNeg, hk2', decide_false]
      refine .inr ⟨by simp, ?_⟩
      simp only [D0, ains, appG, clsOf, abin, aint, aun, dnext, rowsOf, loadObj, cellsOf, ofCells, bnd, hmerge, Nat.reduceBEq, Nat.reduceAdd, reduceIte, Nat.reduceEqDiff, Nat.reduceLeDiff, Int.reduceEq, reduceCtorEq, Int.reduceBEq, Int.reduceBNe, Int.reduceLT, Int.reduceNeg, hp]
      simp only [F1, bodyRes, one, ains, appG, clsOf, abin, aint, aun, dnext, rowsOf, loadObj, cellsOf, ofCells, bnd, hmerge, Nat.reduceBEq, Nat.reduceAdd, reduceIte, Nat.reduceEqDiff, Nat.reduceLeDiff, Int.reduceEq, reduceCtorEq, Int.reduceBEq, Int.reduceBNe, Int.reduceLT, Int.reduceNeg]
      exact ⟨h, by rw [hcN], h⟩
  · have h' : ¬ (i : Int) < (A.length : Int) := by omega
    have hil : i = A.length := by omega
    have hAn : cntA s A i = B.length := by
      rw [hil, hcnt]
      unfold cntA
      rw [List.take_length]
    rw [hAn]
    simp only [D0, ains, appG, clsOf, abin, aint, aun, dnext, rowsOf, loadObj, cellsOf, ofCells, bnd, hmerge, Nat.reduceBEq, Nat.reduceAdd, reduceIte, Nat.reduceEqDiff, Nat.reduceLeDiff, Int.reduceEq, reduceCtorEq, Int.reduceBEq, Int.reduceBNe, Int.reduceLT, Int.reduceNeg, h', decide_false]
    refine .inr ⟨by simp, ?_⟩
    simp only [D0, ains, appG, clsOf, abin, aint, aun, dnext, rowsOf, loadObj, cellsOf, ofCells, bnd, hmerge, Nat.reduceBEq, Nat.reduceAdd, reduceIte, Nat.reduceEqDiff, Nat.reduceLeDiff, Int.reduceEq, reduceCtorEq, Int.reduceBEq, Int.reduceBNe, Int.reduceLT, Int.reduceNeg, @use_all r13 6 kW.ora rfl, eW, List.length_map]
    simp only [F1, bodyRes, one, ains, appG, clsOf, abin, aint, aun, dnext, rowsOf, loadObj, cellsOf, ofCells, bnd, hmerge, Nat.reduceBEq, Nat.reduceAdd, reduceIte, Nat.reduceEqDiff, Nat.reduceLeDiff, Int.reduceEq, reduceCtorEq, Int.reduceBEq, Int.reduceBNe, Int.reduceLT, Int.reduceNeg, fn1002_res, fn1002_keep]
theorem run1002 (l : List (List R2)) (s : List R2) (wl : l.length ≤ 9223372036854775807 ∧ ∀ s ∈ l, WfS s) (ws : WfS s) : cwp r13 4 [] [(AV.list 1 (List.map (fun s => [(AV.list 2 (List.map (fun x => [AV.int .i64 x.1, AV.int .i64 x.2]) (s)))]) (l))), (AV.list 2 (List.map (fun x => [AV.int .i64 x.1, AV.int .i64 x.2]) (s)))] [] (fun r H => r = .bool true ∧ H = []) := by
  refine run_fn (fn := fn1002) rfl rfl ?_
  cases hf : fairB l with
  | false =>
    simp only [fn1002_body, c1002, c1002_5, D0, ains, appG, clsOf, abin, aint, aun, dnext, rowsOf, loadObj, cellsOf, ofCells, bnd, hmerge, Nat.reduceBEq, Nat.reduceAdd, reduceIte, Nat.reduceEqDiff, Nat.reduceLeDiff, Int.reduceEq, reduceCtorEq, Int.reduceBEq, Int.reduceBNe, Int.reduceLT, Int.reduceNeg, @use_all r13 5 k1003.ora rfl, e1003, hf, @use_all r13 6 kW.ora rfl, eW]
    simp only [F1, bodyRes, one, ains, appG, clsOf, abin, aint, aun, dnext, rowsOf, loadObj, cellsOf, ofCells, bnd, hmerge, Nat.reduceBEq, Nat.reduceAdd, reduceIte, Nat.reduceEqDiff, Nat.reduceLeDiff, Int.reduceEq, reduceCtorEq, Int.reduceBEq, Int.reduceBNe, Int.reduceLT, Int.reduceNeg, fn1002_res, fn1002_keep]
  | true =>
    by_cases hl5 : l.length ≤ 5
    · have hl5' : ¬ (l.length : Int) > 5 := by omega
      by_cases hs40 : s.length ≤ 40
      · have hs40' : ¬ (s.length : Int) > 40 := by omega
        have hs9 : s.length ≤ 9223372036854775807 := by omega
        obtain ⟨d1, d2⟩ := fair_dom2 hf
        have d3 : ∀ s ∈ l, s.length ≤ 150 := fun s hs => Nat.le_trans (lenS_le2 hs) d2
        simp only [fn1002_body, c1002, c1002_5, D0, ains, appG, clsOf, abin, aint, aun, dnext, rowsOf, loadObj, cellsOf, ofCells, bnd, hmerge, Nat.reduceBEq, Nat.reduceAdd, reduceIte, Nat.reduceEqDiff, Nat.reduceLeDiff, Int.reduceEq, reduceCtorEq, Int.reduceBEq, Int.reduceBNe, Int.reduceLT, Int.reduceNeg, @use_all r13 5 k1003.ora rfl, e1003, hf, hl5', hs40', decide_false]
        refine lg_rule (fun j e H => e = [(0, (AV.list 1 (List.map (fun s => [(AV.list 2 (List.map (fun x => [AV.int .i64 x.1, AV.int .i64 x.2]) (s)))]) (l)))), (1, (AV.list 2 (List.map (fun x => [AV.int .i64 x.1, AV.int .i64 x.2]) (s)))), (4, .bool false), (5, .int .i64 j)] ∧ H = [[]] ∧ j ≤ l.length ∧ ∀ i, i < j → goodS (l.getD i []) = true) l.length ?_ ?_
        · exact ⟨rfl, rfl, by simp, fun i hi => by omega⟩
        rintro j e H ⟨rfl, rfl, hj, hgd⟩
        simp only [D0, ains, appG, clsOf, abin, aint, aun, dnext, rowsOf, loadObj, cellsOf, ofCells, bnd, hmerge, Nat.reduceBEq, Nat.reduceAdd, reduceIte, Nat.reduceEqDiff, Nat.reduceLeDiff, Int.reduceEq, reduceCtorEq, Int.reduceBEq, Int.reduceBNe, Int.reduceLT, Int.reduceNeg]
        by_cases h : j < l.length
        · have h' : (j : Int) < (l.length : Int) := by omega
          have hp := wrapp (j := j) (by omega)
          have hg := map_get (f := fun s : List R2 => [(AV.list 2 (List.map (fun x => [AV.int .i64 x.1, AV.int .i64 x.2]) (s)))]) h []
          have hs9 : (l.getD j []).length ≤ 9223372036854775807 := by have := d3 _ (getD_memL h); omega
          have hgj : goodS (l.getD j []) = true → ∀ i, i < j + 1 → goodS (l.getD i []) = true := fun e i hi => by
            by_cases k : i = j
            · rw [k]; exact e
            · exact hgd i (by omega)
          generalize l.getD j [] = t at hg hs9 hgj
          cases gs : goodS t with
          | true =>
            simp only [D0, ains, appG, clsOf, abin, aint, aun, dnext, rowsOf, loadObj, cellsOf, ofCells, bnd, hmerge, Nat.reduceBEq, Nat.reduceAdd, reduceIte, Nat.reduceEqDiff, Nat.reduceLeDiff, Int.reduceEq, reduceCtorEq, Int.reduceBEq, Int.reduceBNe, Int.reduceLT, Int.reduceNeg, h', hg, hp, hs9, @use_all r13 19 k57.ora rfl, e57, gs, decide_true, Int.natCast_nonneg, Int.toNat_natCast, List.length_map]
            simp only [F1, bodyRes, one, ains, appG, clsOf, abin, aint, aun, dnext, rowsOf, loadObj, cellsOf, ofCells, bnd, hmerge, Nat.reduceBEq, Nat.reduceAdd, reduceIte, Nat.reduceEqDiff, Nat.reduceLeDiff, Int.reduceEq, reduceCtorEq, Int.reduceBEq, Int.reduceBNe, Int.reduceLT, Int.reduceNeg]
            exact ⟨h, h, hgj gs⟩
          | false =>
            simp only [D0, ains, appG, clsOf, abin, aint, aun, dnext, rowsOf, loadObj, cellsOf, ofCells, bnd, hmerge, Nat.reduceBEq, Nat.reduceAdd, reduceIte, Nat.reduceEqDiff, Nat.reduceLeDiff, Int.reduceEq, reduceCtorEq, Int.reduceBEq, Int.reduceBNe, Int.reduceLT, Int.reduceNeg, h', hg, hp, hs9, @use_all r13 19 k57.ora rfl, e57, gs, @use_all r13 6 kW.ora rfl, eW, decide_true, Int.natCast_nonneg, Int.toNat_natCast, List.length_map]
            simp only [F1, bodyRes, one, ains, appG, clsOf, abin, aint, aun, dnext, rowsOf, loadObj, cellsOf, ofCells, bnd, hmerge, Nat.reduceBEq, Nat.reduceAdd, reduceIte, Nat.reduceEqDiff, Nat.reduceLeDiff, Int.reduceEq, reduceCtorEq, Int.reduceBEq, Int.reduceBNe, Int.reduceLT, Int.reduceNeg, fn1002_res, fn1002_keep]
        · have h' : ¬ (j : Int) < (l.length : Int) := by omega
          have hall : ∀ t ∈ l, goodS t = true := fun t ht => by
            obtain ⟨i, hi, rfl⟩ := List.getElem_of_mem ht
            have := hgd i (by omega)
            simpa [List.getElem?_eq_getElem hi] using this
          simp only [D0, ains, appG, clsOf, abin, aint, aun, dnext, rowsOf, loadObj, cellsOf, ofCells, bnd, hmerge, Nat.reduceBEq, Nat.reduceAdd, reduceIte, Nat.reduceEqDiff, Nat.reduceLeDiff, Int.reduceEq, reduceCtorEq, Int.reduceBEq, Int.reduceBNe, Int.reduceLT, Int.reduceNeg, h', decide_false]
          refine .inr ⟨by simp, ?_⟩
          cases gs : goodS s with
          | false =>
            simp only [c1002_4, D0, ains, appG, clsOf, abin, aint, aun, dnext, rowsOf, loadObj, cellsOf, ofCells, bnd, hmerge, Nat.reduceBEq, Nat.reduceAdd, reduceIte, Nat.reduceEqDiff, Nat.reduceLeDiff, Int.reduceEq, reduceCtorEq, Int.reduceBEq, Int.reduceBNe, Int.reduceLT, Int.reduceNeg, hs9, @use_all r13 19 k57.ora rfl, e57, gs, @use_all r13 6 kW.ora rfl, eW]
            simp only [F1, bodyRes, one, ains, appG, clsOf, abin, aint, aun, dnext, rowsOf, loadObj, cellsOf, ofCells, bnd, hmerge, Nat.reduceBEq, Nat.reduceAdd, reduceIte, Nat.reduceEqDiff, Nat.reduceLeDiff, Int.reduceEq, reduceCtorEq, Int.reduceBEq, Int.reduceBNe, Int.reduceLT, Int.reduceNeg, fn1002_res, fn1002_keep]
          | true =>
            have hjl : j = l.length := by omega
            subst hjl
            have gl2 : ∀ t ∈ l ++ [s], goodS t = true := fun t ht => by
              rcases List.mem_append.1 ht with h | h
              · exact hall t h
              · rw [List.mem_singleton.1 h]; exact gs
            have b1 := parts_few hall (by omega)
            have b2 := parts_few gl2 (by simp; omega)
            obtain ⟨b3, v3⟩ := parts_twice hall (by omega)
            have hA := parted b1
            have hB := parted b2
            have lb : lenS (l ++ [s]) ≤ 190 := by rw [lenS_snoc]; omega
            have lc : lenS (l ++ l) ≤ 300 := by rw [lenS_app]; omega
            have q1 : l.length ≤ 1000 ∧ lenS l ≤ 1000 ∧ ∀ s ∈ l, s.length ≤ 1000000 := ⟨by omega, by omega, fun s hs => by have := d3 s hs; omega⟩
            have q2 : (l ++ [s]).length ≤ 1000 ∧ lenS (l ++ [s]) ≤ 1000 ∧ ∀ t ∈ l ++ [s], t.length ≤ 1000000 := ⟨by simp; omega, by omega, fun t ht => by have := lenS_le2 ht; omega⟩
            have q3 : (l ++ l).length ≤ 1000 ∧ lenS (l ++ l) ≤ 1000 ∧ ∀ t ∈ l ++ l, t.length ≤ 1000000 := ⟨by simp; omega, by omega, fun t ht => by have := lenS_le2 ht; omega⟩
            have e6a : ∀ (q : Id) (H : Heap), k1006.ora q [(AV.list 1 (List.map (fun s => [(AV.list 2 (List.map (fun x => [AV.int .i64 x.1, AV.int .i64 x.2]) (s)))]) (l)))] H = some (.tuple [(AV.list 1 (List.map (fun s => [(AV.list 2 (List.map (fun x => [AV.int .i64 x.1, AV.int .i64 x.2]) (s)))]) (partsV l))), .bool true], H) := fun q H => by have := e1006 l q1 q H; rw [b1] at this; exact this
            have e6b : ∀ (q : Id) (H : Heap), k1006.ora q [.list 1 (List.map (fun s => [(AV.list 2 (List.map (fun x => [AV.int .i64 x.1, AV.int .i64 x.2]) (s)))]) l ++ [[(AV.list 2 (List.map (fun x => [AV.int .i64 x.1, AV.int .i64 x.2]) (s)))]])] H = some (.tuple [(AV.list 1 (List.map (fun s => [(AV.list 2 (List.map (fun x => [AV.int .i64 x.1, AV.int .i64 x.2]) (s)))]) (partsV (l ++ [s])))), .bool true], H) := fun q H => by have := e1006 (l ++ [s]) q2 q H; rw [b2, List.map_append] at this; exact this
            have e6c : ∀ (q : Id) (H : Heap), k1006.ora q [.list 1 (List.map (fun s => [(AV.list 2 (List.map (fun x => [AV.int .i64 x.1, AV.int .i64 x.2]) (s)))]) l ++ List.map (fun s => [(AV.list 2 (List.map (fun x => [AV.int .i64 x.1, AV.int .i64 x.2]) (s)))]) l)] H = some (.tuple [(AV.list 1 (List.map (fun s => [(AV.list 2 (List.map (fun x => [AV.int .i64 x.1, AV.int .i64 x.2]) (s)))]) (partsV l))), .bool true], H) := fun q H => by have := e1006 (l ++ l) q3 q H; rw [b3, v3, List.map_append] at this; exact this
            obtain ⟨hin, hcnt⟩ := more_ok hA hB gs
            have hAl : (partsV l).length ≤ 256 := hA.num.2
            have hBl : (partsV (l ++ [s])).length ≤ 256 := hB.num.2
            have hAs : ∀ t ∈ partsV l, t.length ≤ 400 := fun t ht => by have := lenS_le2 ht; have := hA.len; omega
            have hBs : ∀ t ∈ partsV (l ++ [s]), t.length ≤ 9223372036854775807 := fun t ht => by have := lenS_le2 ht; have := hB.len; omega
            have e14 := e1014 (partsV l) (partsV l) ⟨by omega, fun t ht => by have := hAs t ht; omega⟩
            have hAg := hA.tile.good
            clear hA hB q1 q2 q3 b1 b2 b3 v3 lb lc gl2 hgd hj h h'
            generalize partsV (l ++ [s]) = B at *
            generalize partsV l = A at *
            have hc1 : l.length * 24 ≤ 140737488355328 := by omega
            have hc2 : (l.length + 1) * 24 ≤ 140737488355328 := by omega
            have hc3 : (l.length + l.length) * 24 ≤ 140737488355328 := by omega
            simp only [c1002_4, D0, ains, appG, clsOf, abin, aint, aun, dnext, rowsOf, loadObj, cellsOf, ofCells, bnd, hmerge, Nat.reduceBEq, Nat.reduceAdd, reduceIte, Nat.reduceEqDiff, Nat.reduceLeDiff, Int.reduceEq, reduceCtorEq, Int.reduceBEq, Int.reduceBNe, Int.reduceLT, Int.reduceNeg, hc1, hc2, hc3, Nat.zero_add, List.length_append, fz, fzd, fzd.fzcells, setRows, hs9, @use_all r13 19 k57.ora rfl, e57, gs, @use_all r13 8 k1006.ora rfl, e6a, e6b, e6c, List.nil_append, List.length_map]
            exact tail1002 l A B s _ gs hs40 hAl hBl hAs hBs (by simpa using e14) hAg hin hcnt
      · have hs40' : (s.length : Int) > 40 := by omega
        simp only [fn1002_body, c1002, c1002_5, D0, ains, appG, clsOf, abin, aint, aun, dnext, rowsOf, loadObj, cellsOf, ofCells, bnd, hmerge, Nat.reduceBEq, Nat.reduceAdd, reduceIte, Nat.reduceEqDiff, Nat.reduceLeDiff, Int.reduceEq, reduceCtorEq, Int.reduceBEq, Int.reduceBNe, Int.reduceLT, Int.reduceNeg, @use_all r13 5 k1003.ora rfl, e1003, hf, hl5', hs40', @use_all r13 6 kW.ora rfl, eW, decide_true, decide_false]
        simp only [F1, bodyRes, one, ains, appG, clsOf, abin, aint, aun, dnext, rowsOf, loadObj, cellsOf, ofCells, bnd, hmerge, Nat.reduceBEq, Nat.reduceAdd, reduceIte, Nat.reduceEqDiff, Nat.reduceLeDiff, Int.reduceEq, reduceCtorEq, Int.reduceBEq, Int.reduceBNe, Int.reduceLT, Int.reduceNeg, fn1002_res, fn1002_keep]
    · have hl5' : (l.length : Int) > 5 := by omega
      simp only [fn1002_body, c1002, c1002_5, D0, ains, appG, clsOf, abin, aint, aun, dnext, rowsOf, loadObj, cellsOf, ofCells, bnd, hmerge, Nat.reduceBEq, Nat.reduceAdd, reduceIte, Nat.reduceEqDiff, Nat.reduceLeDiff, Int.reduceEq, reduceCtorEq, Int.reduceBEq, Int.reduceBNe, Int.reduceLT, Int.reduceNeg, @use_all r13 5 k1003.ora rfl, e1003, hf, hl5', @use_all r13 6 kW.ora rfl, eW, decide_true]
      simp only [F1, bodyRes, one, ains, appG, clsOf, abin, aint, aun, dnext, rowsOf, loadObj, cellsOf, ofCells, bnd, hmerge, Nat.reduceBEq, Nat.reduceAdd, reduceIte, Nat.reduceEqDiff, Nat.reduceLeDiff, Int.reduceEq, reduceCtorEq, Int.reduceBEq, Int.reduceBNe, Int.reduceLT, Int.reduceNeg, fn1002_res, fn1002_keep]
end Go.Proofs.Abs
