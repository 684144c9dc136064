/- A part of a proof: the text that states the row tells what is proved. No condition is laid on anything. -/
import Derived.Test.YtligpalonlliaaaGreatAbsZ1
set_option linter.all false
set_option linter.constructorNameAsVariable false
set_option linter.defProp false
set_option linter.unusedVariables false
set_option linter.unusedSimpArgs false
set_option maxRecDepth 100000
set_option maxHeartbeats 16000000
namespace Go.Proofs.Abs
open Go
/-! 1018: refine.cuts. -/
noncomputable def r1 : FT := upd (s13) 23 k1017.ora
theorem r1_ok : FTOK Tryz.prog r1 := upd_ok2 (f := 23) (s13_ok) ook1017

def cutR1 (r : R2) : List Int := if nextB r.2 then [r.1, nextV r.2] else [r.1]
def cutsA (l : List R2) : List Int := 0 :: l.flatMap cutR1
theorem cutsA_snoc (l : List R2) (r : R2) : cutsA (l ++ [r]) = cutsA l ++ cutR1 r := by simp [cutsA]
theorem cutsA_length (l : List R2) : (cutsA l).length ≤ 1 + 2 * l.length := by
  induction l with
  | nil => simp [cutsA]
  | cons r l ih =>
    have : (cutR1 r).length ≤ 2 := by unfold cutR1; split <;> simp
    simp only [cutsA, List.flatMap_cons, List.length_cons, List.length_append] at ih ⊢
    omega
theorem up_ext : ∀ {a b : List Int}, a.Pairwise (· < ·) → b.Pairwise (· < ·) → (∀ v, v ∈ a ↔ v ∈ b) → a = b
  | [], [], _, _, _ => rfl
  | [], y :: b, _, _, h => absurd ((h y).2 (List.mem_cons_self ..)) (by simp)
  | x :: a, [], _, _, h => absurd ((h x).1 (List.mem_cons_self ..)) (by simp)
  | x :: a, y :: b, ha, hb, h => by
    obtain ⟨a1, a2⟩ := List.pairwise_cons.1 ha
    obtain ⟨b1, b2⟩ := List.pairwise_cons.1 hb
    have hxy : x = y := by
      rcases List.mem_cons.1 ((h x).1 (List.mem_cons_self ..)) with e | e
      · exact e
      · rcases List.mem_cons.1 ((h y).2 (List.mem_cons_self ..)) with e' | e'
        · exact e'.symm
        · have := b1 x e
          have := a1 y e'
          omega
    subst hxy
    congr 1
    refine up_ext a2 b2 fun v => ?_
    have := h v
    rw [List.mem_cons, List.mem_cons] at this
    constructor
    · intro hv
      rcases this.1 (.inr hv) with e | e
      · have := a1 v hv; omega
      · exact e
    · intro hv
      rcases this.2 (.inr hv) with e | e
      · have := b1 v hv; omega
      · exact e
theorem startsL_up (l : List R2) : (startsL l).Pairwise (· < ·) := by
  suffices h : ∀ (l : List R2) (o : List Int), o.Pairwise (· < ·) → (l.foldl stA o).Pairwise (· < ·) from h l [0] (by simp)
  intro l
  induction l with
  | nil => intro o h; exact h
  | cons r l ih =>
    intro o h
    refine ih _ ?_
    unfold stA
    split
    · exact putL_up _ _ (putL_up _ _ h)
    · exact putL_up _ _ h
theorem startsL_mem (l : List R2) (v : Int) : v ∈ startsL l ↔ v ∈ cutsA l := by
  suffices h : ∀ (l : List R2) (o : List Int), v ∈ l.foldl stA o ↔ v ∈ o ∨ v ∈ l.flatMap cutR1 by
    have := h l [0]
    simpa [startsL, cutsA] using this
  intro l
  induction l with
  | nil => intro o; simp
  | cons r l ih =>
    intro o
    rw [List.foldl_cons, ih, List.flatMap_cons, List.mem_append]
    unfold stA cutR1
    split
    · rw [putL_mem, putL_mem]
      simp only [List.mem_cons, List.not_mem_nil, or_false]
      constructor
      · rintro ((h | h | h) | h)
        · exact .inr (.inl (.inr h))
        · exact .inr (.inl (.inl h))
        · exact .inl h
        · exact .inr (.inr h)
      · rintro (h | (h | h) | h)
        · exact .inl (.inr (.inr h))
        · exact .inl (.inr (.inl h))
        · exact .inl (.inl h)
        · exact .inr h
    · rw [putL_mem]
      simp only [List.mem_cons, List.not_mem_nil, or_false]
      constructor
      · rintro ((h | h) | h)
        · exact .inr (.inl h)
        · exact .inl h
        · exact .inr (.inr h)
      · rintro (h | h | h)
        · exact .inl (.inr h)
        · exact .inl (.inl h)
        · exact .inr h
theorem cuts_starts (l : List R2) : Lib.compact (Rg.sortN (cutsA l)) = startsL l :=
  up_ext (Rg.compact_up (Rg.sortN_sorted _)) (startsL_up l) fun v => by rw [Rg.compact_mem, (Rg.sortN_perm _).mem_iff, startsL_mem]
theorem e1026 (l : List Int) (h0 : 0 < l.length) (h1 : l.length ≤ 1000000) (q : Id) (H : Heap) (id : Id) (hg : hget H id = some (.row true true 3 1 (List.map (fun x => [AV.int .i64 x]) l))) :
    sortISpec q [.own id l.length] H = some (.tuple [], hset H id (.row true true 3 1 (List.map (fun x => [AV.int .i64 x]) (Rg.sortN l)))) := by
  have hn : niOf (List.map (fun x => [AV.int .i64 x]) l) = some l := niOf_rows l
  simp only [sortISpec, hg, hn, h0, h1, and_self, if_true]
  rfl
def cmpZ (l : List Int) : List Int := Lib.compact l ++ List.replicate (l.length - (Lib.compact l).length) 0
theorem e1027 (l : List Int) (h0 : 0 < l.length) (h1 : l.length ≤ 1000000) (q : Id) (H : Heap) (id : Id) (hg : hget H id = some (.row true true 3 1 (List.map (fun x => [AV.int .i64 x]) l))) :
    compSpec q [.own id l.length] H = some ((AV.list 1 (List.map (fun x => [AV.int .i64 x]) (Lib.compact l))), hset (hset H id (.row true true 3 1 (List.map (fun x => [AV.int .i64 x]) (cmpZ l)))) id (.row false true 3 1 (List.map (fun x => [AV.int .i64 x]) (cmpZ l)))) := by
  have hn : niOf (List.map (fun x => [AV.int .i64 x]) l) = some l := niOf_rows l
  simp only [compSpec, hg, hn, h0, h1, and_self, if_true]
  rfl
theorem run1018 (l : List (List R2)) (h0 : l.length ≤ 1000) (hl : lenS l ≤ 1000) : cwp r1 24 [] [(AV.list 1 (List.map (fun s => [(AV.list 2 (List.map (fun x => [AV.int .i64 x.1, AV.int .i64 x.2]) (s)))]) (l)))] [] (fun r H => r = (AV.list 1 (List.map (fun x => [AV.int .i64 x]) (startsL l.flatten))) ∧ H = []) := by
  refine run_fn (fn := fn1018) rfl rfl ?_
  simp only [fn1018_body, c1018, D0, ains, appG, clsOf, abin, aint, aun, dnext, rowsOf, loadObj, cellsOf, ofCells, bnd, hmerge, Nat.reduceBEq, Nat.reduceAdd, reduceIte, Nat.reduceEqDiff, Nat.reduceLeDiff, Int.reduceEq, reduceCtorEq, Int.reduceBEq, Int.reduceBNe, Int.reduceLT, Int.reduceNeg]
  refine lg_rule (fun j e H => e = [(0, (AV.list 1 (List.map (fun s => [(AV.list 2 (List.map (fun x => [AV.int .i64 x.1, AV.int .i64 x.2]) (s)))]) (l)))), (2, .own [0] 0), (3, .own [1] (cutsA (l.take j).flatten).length), (11, (AV.list 1 (List.map (fun s => [(AV.list 2 (List.map (fun x => [AV.int .i64 x.1, AV.int .i64 x.2]) (s)))]) (l)))), (12, .int .i64 l.length), (13, .int .i64 j)] ∧
    H = [[([1], .row true true 3 1 (List.map (fun x => [AV.int .i64 x]) (cutsA (l.take j).flatten))), ([0], .row true true 3 1 [])]] ∧ j ≤ l.length) l.length ?_ ?_
  · exact ⟨rfl, rfl, by simp⟩
  rintro j e H ⟨rfl, rfl, hj⟩
  simp only [D0, ains, appG, clsOf, abin, aint, aun, dnext, rowsOf, loadObj, cellsOf, ofCells, bnd, hmerge, Nat.reduceBEq, Nat.reduceAdd, reduceIte, Nat.reduceEqDiff, Nat.reduceLeDiff, Int.reduceEq, reduceCtorEq, Int.reduceBEq, Int.reduceBNe, Int.reduceLT, Int.reduceNeg]
  by_cases h : j < l.length
  · have h' : (j : Int) < (l.length : Int) := by omega
    have hp := wrapp (j := j) (by omega)
    have hg := map_get (f := fun s : List R2 => [(AV.list 2 (List.map (fun x => [AV.int .i64 x.1, AV.int .i64 x.2]) (s)))]) h []
    have hn := lenS_snoc (l.take j) (l.getD j [])
    have hf := flat_snoc (l.take j) (l.getD j [])
    have hle := lenS_take l (j + 1)
    rw [← takeL_snoc h] at hn hf
    have hul := flatS_len (l.take j)
    generalize l.getD j [] = s at hg hn hf
    generalize (l.take j).flatten = u at hf hul ⊢
    simp only [D0, ains, appG, clsOf, abin, aint, aun, dnext, rowsOf, loadObj, cellsOf, ofCells, bnd, hmerge, Nat.reduceBEq, Nat.reduceAdd, reduceIte, Nat.reduceEqDiff, Nat.reduceLeDiff, Int.reduceEq, reduceCtorEq, Int.reduceBEq, Int.reduceBNe, Int.reduceLT, Int.reduceNeg, h', hg, decide_true, Int.natCast_nonneg, Int.toNat_natCast]
    refine lg_rule (fun i e H => e = [(0, (AV.list 1 (List.map (fun s => [(AV.list 2 (List.map (fun x => [AV.int .i64 x.1, AV.int .i64 x.2]) (s)))]) (l)))), (2, .own [0] 0), (3, .own [1] (cutsA (u ++ s.take i)).length), (11, (AV.list 1 (List.map (fun s => [(AV.list 2 (List.map (fun x => [AV.int .i64 x.1, AV.int .i64 x.2]) (s)))]) (l)))), (12, .int .i64 l.length), (13, .int .i64 j), (5, (AV.list 2 (List.map (fun x => [AV.int .i64 x.1, AV.int .i64 x.2]) (s)))), (17, (AV.list 2 (List.map (fun x => [AV.int .i64 x.1, AV.int .i64 x.2]) (s)))), (18, .int .i64 s.length), (19, .int .i64 i)] ∧
      H = [[], [([1], .row true true 3 1 (List.map (fun x => [AV.int .i64 x]) (cutsA (u ++ s.take i)))), ([0], .row true true 3 1 [])]] ∧ i ≤ s.length) s.length ?_ ?_
    · refine ⟨?_, ?_, by simp⟩
      · simp
      · simp
    rintro i e H ⟨rfl, rfl, hi⟩
    simp only [D0, ains, appG, clsOf, abin, aint, aun, dnext, rowsOf, loadObj, cellsOf, ofCells, bnd, hmerge, Nat.reduceBEq, Nat.reduceAdd, reduceIte, Nat.reduceEqDiff, Nat.reduceLeDiff, Int.reduceEq, reduceCtorEq, Int.reduceBEq, Int.reduceBNe, Int.reduceLT, Int.reduceNeg]
    by_cases k : i < s.length
    · have k' : (i : Int) < (s.length : Int) := by omega
      have hpi := wrapp (j := i) (by omega)
      have hgi := map_get (f := fun x : Int × Int => [AV.int .i64 x.1, AV.int .i64 x.2]) k (0, 0)
      have hsn := cutsA_snoc (u ++ s.take i) (s.getD i (0, 0))
      rw [List.append_assoc, ← take_snoc k] at hsn
      generalize s.getD i (0, 0) = x at hgi hsn
      obtain ⟨a, b⟩ := x
      have hlen := cutsA_length (u ++ s.take i)
      have hul2 : (u ++ s.take i).length ≤ 1000 := by simp; omega
      generalize hV : cutsA (u ++ s.take i) = V at hsn hlen ⊢
      have hc1 : (V.length + 1) * 8 ≤ 140737488355328 := by omega
      have hc2 : (V.length + 1 + 1) * 8 ≤ 140737488355328 := by omega
      cases hb : nextB b with
      | true =>
        have hcr : cutR1 (a, b) = [a, nextV b] := by simp [cutR1, hb]
        rw [hcr] at hsn
        have hVl : (List.map (fun x : Int => [AV.int .i64 x]) V ++ [[AV.int .i64 a]]).length = V.length + 1 := by simp
        simp only [D0, ains, appG, clsOf, abin, aint, aun, dnext, rowsOf, loadObj, cellsOf, ofCells, bnd, hmerge, Nat.reduceBEq, Nat.reduceAdd, reduceIte, Nat.reduceEqDiff, Nat.reduceLeDiff, Int.reduceEq, reduceCtorEq, Int.reduceBEq, Int.reduceBNe, Int.reduceLT, Int.reduceNeg, @use_all r1 35 k92.ora rfl, e92, k', hgi, hpi, hb, hc1, hc2, hVl, decide_true, Int.natCast_nonneg, Int.toNat_natCast, List.length_map]
        simp only [F1, bodyRes, one, ains, appG, clsOf, abin, aint, aun, dnext, rowsOf, loadObj, cellsOf, ofCells, bnd, hmerge, Nat.reduceBEq, Nat.reduceAdd, reduceIte, Nat.reduceEqDiff, Nat.reduceLeDiff, Int.reduceEq, reduceCtorEq, Int.reduceBEq, Int.reduceBNe, Int.reduceLT, Int.reduceNeg]
        rw [hsn]
        exact ⟨k, by simp, by simp, k⟩
      | false =>
        have hcr : cutR1 (a, b) = [a] := by simp [cutR1, hb]
        rw [hcr] at hsn
        have hVl : (List.map (fun x : Int => [AV.int .i64 x]) V ++ [[AV.int .i64 a]]).length = V.length + 1 := by simp
        simp only [D0, ains, appG, clsOf, abin, aint, aun, dnext, rowsOf, loadObj, cellsOf, ofCells, bnd, hmerge, Nat.reduceBEq, Nat.reduceAdd, reduceIte, Nat.reduceEqDiff, Nat.reduceLeDiff, Int.reduceEq, reduceCtorEq, Int.reduceBEq, Int.reduceBNe, Int.reduceLT, Int.reduceNeg, @use_all r1 35 k92.ora rfl, e92, k', hgi, hpi, hb, hc1, hc2, hVl, decide_true, Int.natCast_nonneg, Int.toNat_natCast, List.length_map]
        simp only [F1, bodyRes, one, ains, appG, clsOf, abin, aint, aun, dnext, rowsOf, loadObj, cellsOf, ofCells, bnd, hmerge, Nat.reduceBEq, Nat.reduceAdd, reduceIte, Nat.reduceEqDiff, Nat.reduceLeDiff, Int.reduceEq, reduceCtorEq, Int.reduceBEq, Int.reduceBNe, Int.reduceLT, Int.reduceNeg]
        rw [hsn]
        exact ⟨k, by simp, by simp, k⟩
    · have k' : ¬ (i : Int) < (s.length : Int) := by omega
      have hil : i = s.length := by omega
      subst hil
      simp only [D0, ains, appG, clsOf, abin, aint, aun, dnext, rowsOf, loadObj, cellsOf, ofCells, bnd, hmerge, Nat.reduceBEq, Nat.reduceAdd, reduceIte, Nat.reduceEqDiff, Nat.reduceLeDiff, Int.reduceEq, reduceCtorEq, Int.reduceBEq, Int.reduceBNe, Int.reduceLT, Int.reduceNeg, k', decide_false]
      refine .inr ⟨by simp, ?_⟩
      simp only [D0, ains, appG, clsOf, abin, aint, aun, dnext, rowsOf, loadObj, cellsOf, ofCells, bnd, hmerge, Nat.reduceBEq, Nat.reduceAdd, reduceIte, Nat.reduceEqDiff, Nat.reduceLeDiff, Int.reduceEq, reduceCtorEq, Int.reduceBEq, Int.reduceBNe, Int.reduceLT, Int.reduceNeg, hp]
      simp only [F1, bodyRes, one, ains, appG, clsOf, abin, aint, aun, dnext, rowsOf, loadObj, cellsOf, ofCells, bnd, hmerge, Nat.reduceBEq, Nat.reduceAdd, reduceIte, Nat.reduceEqDiff, Nat.reduceLeDiff, Int.reduceEq, reduceCtorEq, Int.reduceBEq, Int.reduceBNe, Int.reduceLT, Int.reduceNeg, List.take_length]
      rw [hf]
      exact ⟨h, rfl, rfl, h⟩
  · have h' : ¬ (j : Int) < (l.length : Int) := by omega
    have hjl : j = l.length := by omega
    subst hjl
    simp only [List.take_length, D0, ains, appG, clsOf, abin, aint, aun, dnext, rowsOf, loadObj, cellsOf, ofCells, bnd, hmerge, Nat.reduceBEq, Nat.reduceAdd, reduceIte, Nat.reduceEqDiff, Nat.reduceLeDiff, Int.reduceEq, reduceCtorEq, Int.reduceBEq, Int.reduceBNe, Int.reduceLT, Int.reduceNeg, h', decide_false]
    refine .inr ⟨by simp, ?_⟩
    have hlen := cutsA_length l.flatten
    have hfl := flatS_len l
    have hcs := cuts_starts l.flatten
    have hV0 : 0 < (cutsA l.flatten).length := by simp [cutsA]
    generalize cutsA l.flatten = V at hlen hcs hV0 ⊢
    have hV : V.length ≤ 1000000 := by omega
    have hs1 := e1026 V hV0 hV [8] [[([1], .row true true 3 1 (List.map (fun x => [AV.int .i64 x]) V)), ([0], .row true true 3 1 [])]] [1] rfl
    have hsl := Rg.sortN_length V
    simp only [@use_all r1 48 sortISpec rfl, hs1, D0, ains, appG, clsOf, abin, aint, aun, dnext, rowsOf, loadObj, cellsOf, ofCells, bnd, hmerge, Nat.reduceBEq, Nat.reduceAdd, reduceIte, Nat.reduceEqDiff, Nat.reduceLeDiff, Int.reduceEq, reduceCtorEq, Int.reduceBEq, Int.reduceBNe, Int.reduceLT, Int.reduceNeg]
    generalize Rg.sortN V = W at hcs hsl
    have hs2 := e1027 W (by omega) (by omega) [10] [[([1], .row true true 3 1 (List.map (fun x => [AV.int .i64 x]) W)), ([0], .row true true 3 1 [])]] [1] rfl
    rw [← hsl]
    simp only [@use_all r1 49 compSpec rfl, hs2, hcs, D0, ains, appG, clsOf, abin, aint, aun, dnext, rowsOf, loadObj, cellsOf, ofCells, bnd, hmerge, Nat.reduceBEq, Nat.reduceAdd, reduceIte, Nat.reduceEqDiff, Nat.reduceLeDiff, Int.reduceEq, reduceCtorEq, Int.reduceBEq, Int.reduceBNe, Int.reduceLT, Int.reduceNeg]
    simp only [F1, bodyRes, one, ains, appG, clsOf, abin, aint, aun, dnext, rowsOf, loadObj, cellsOf, ofCells, bnd, hmerge, Nat.reduceBEq, Nat.reduceAdd, reduceIte, Nat.reduceEqDiff, Nat.reduceLeDiff, Int.reduceEq, reduceCtorEq, Int.reduceBEq, Int.reduceBNe, Int.reduceLT, Int.reduceNeg, fn1018_res, fn1018_keep, fz, fzd, fzd.fzcells]
noncomputable def k1018 : Kon ((List (List (Int × Int)))) := ⟨fun x => x.length ≤ 1000 ∧ lenS x ≤ 1000, fun x => [(AV.list 1 (List.map (fun s => [(AV.list 2 (List.map (fun x => [AV.int .i64 x.1, AV.int .i64 x.2]) (s)))]) (x)))], fun x => (AV.list 1 (List.map (fun x => [AV.int .i64 x]) (startsL x.flatten)))⟩
theorem e1018 (l : List (List (Int × Int))) (hd : l.length ≤ 1000 ∧ lenS l ≤ 1000) (q0 : Id) (H0 : Heap) : k1018.ora q0 ([(AV.list 1 (List.map (fun s => [(AV.list 2 (List.map (fun x => [AV.int .i64 x.1, AV.int .i64 x.2]) (s)))]) (l)))]) H0 = some ((AV.list 1 (List.map (fun x => [AV.int .i64 x]) (startsL l.flatten))), H0) := k1018.eq (setsInj) (l) hd q0 H0
theorem ook1018 : OraOK Tryz.prog (24 % 100000) k1018.ora := k1018.ok orders r1_ok (fun x hd => by simp [k1018, PU]) (fun x hd => by simp [k1018, PU]) (fun x hd => run1018 x hd.1 hd.2)

end Go.Proofs.Abs
