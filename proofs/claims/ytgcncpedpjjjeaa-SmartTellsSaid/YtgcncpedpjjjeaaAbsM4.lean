/- A part of a proof: the text that states the row tells what is proved. No condition is laid on anything. -/
import Derived.Test.YtgcncpedpjjjeaaAbsM3
set_option linter.all false
set_option linter.constructorNameAsVariable false
set_option linter.defProp false
set_option linter.unusedVariables false
set_option linter.unusedSimpArgs false
set_option maxRecDepth 100000
set_option maxHeartbeats 4000000
namespace Go.Proofs.Abs
open Go
section
variable {ft : FT}
/-! 108, 110, 129: smart's closures. -/
theorem run108 (h108 : ft 108 = some (.code fn108)) (h109 : ft 109 = some (.ora k109.ora)) {t x : Tr} (ht : OkS t) (hx : OkS x) {H : Heap} {id : Id} (hH : hget H id = some (.box [(AV.list 5 (List.map eNd (enc x)))])) (q : Id) :
    cwp ft 108 q [(AV.list 5 (List.map eNd (enc t))), .ref id 1 0 0] H (fun r H2 => r = .bool (decide (t = x)) ∧ H2 = H) := by
  refine run_fn (fn := fn108) h108 rfl ?_
  have hd : (SmS (enc t) ∧ 1 ≤ (enc t).length) ∧ 1 ≤ (enc x).length ∧ (enc x).length ≤ 9223372036854775807 := ⟨⟨ht.sm, ht.ne.1⟩, hx.ne⟩
  have hs := sameT_enc ht hx
  simp only [fn108_body, c108, D0, ains, clsOf, abin, aint, aun, dnext, rowsOf, loadObj, cellsOf, ofCells, bnd, hmerge, Nat.reduceBEq, Nat.reduceAdd, reduceIte, Nat.reduceEqDiff, Nat.reduceLeDiff, Int.reduceEq, reduceCtorEq, Int.reduceBEq, Int.reduceBNe, Int.reduceLT, Int.reduceNeg, @use_all ft 109 k109.ora h109, e109, hd, hs, hH]
  simp only [F1, bodyRes, one, ains, clsOf, abin, aint, aun, dnext, rowsOf, loadObj, cellsOf, ofCells, bnd, hmerge, Nat.reduceBEq, Nat.reduceAdd, reduceIte, Nat.reduceEqDiff, Nat.reduceLeDiff, Int.reduceEq, reduceCtorEq, Int.reduceBEq, Int.reduceBNe, Int.reduceLT, Int.reduceNeg, fn108_res, fn108_keep]
theorem run110 (h110 : ft 110 = some (.code fn110)) (h76 : ft 76 = some (.ora k76.ora)) {t : Tr} (ht : OkS t) (H : Heap) (q : Id) :
    cwp ft 110 q [(AV.list 5 (List.map eNd (enc t)))] H (fun r H2 => r = .bool (decide (rk t = 5)) ∧ H2 = H) := by
  refine run_fn (fn := fn110) h110 rfl ?_
  have hn := ht.ne
  have hk := lastN_enc t
  simp only [fn110_body, c110, D0, ains, clsOf, abin, aint, aun, dnext, rowsOf, loadObj, cellsOf, ofCells, bnd, hmerge, Nat.reduceBEq, Nat.reduceAdd, reduceIte, Nat.reduceEqDiff, Nat.reduceLeDiff, Int.reduceEq, reduceCtorEq, Int.reduceBEq, Int.reduceBNe, Int.reduceLT, Int.reduceNeg, @use_all ft 76 k76.ora h76, e76, hn, hk]
  simp only [F1, bodyRes, one, ains, clsOf, abin, aint, aun, dnext, rowsOf, loadObj, cellsOf, ofCells, bnd, hmerge, Nat.reduceBEq, Nat.reduceAdd, reduceIte, Nat.reduceEqDiff, Nat.reduceLeDiff, Int.reduceEq, reduceCtorEq, Int.reduceBEq, Int.reduceBNe, Int.reduceLT, Int.reduceNeg, fn110_res, fn110_keep]
theorem run129 (h129 : ft 129 = some (.code fn129)) (h76 : ft 76 = some (.ora k76.ora)) {t : Tr} (ht : OkS t) {H : Heap} {id : Id} {k : Int} (hH : hget H id = some (.box [.int .i64 k])) (q : Id) :
    cwp ft 129 q [(AV.list 5 (List.map eNd (enc t))), .ref id 1 0 0] H (fun r H2 => r = .bool (decide (rk t = k)) ∧ H2 = H) := by
  refine run_fn (fn := fn129) h129 rfl ?_
  have hn := ht.ne
  have hk := lastN_enc t
  simp only [fn129_body, c129, D0, ains, clsOf, abin, aint, aun, dnext, rowsOf, loadObj, cellsOf, ofCells, bnd, hmerge, Nat.reduceBEq, Nat.reduceAdd, reduceIte, Nat.reduceEqDiff, Nat.reduceLeDiff, Int.reduceEq, reduceCtorEq, Int.reduceBEq, Int.reduceBNe, Int.reduceLT, Int.reduceNeg, @use_all ft 76 k76.ora h76, e76, hn, hk, hH]
  simp only [F1, bodyRes, one, ains, clsOf, abin, aint, aun, dnext, rowsOf, loadObj, cellsOf, ofCells, bnd, hmerge, Nat.reduceBEq, Nat.reduceAdd, reduceIte, Nat.reduceEqDiff, Nat.reduceLeDiff, Int.reduceEq, reduceCtorEq, Int.reduceBEq, Int.reduceBNe, Int.reduceLT, Int.reduceNeg, fn129_res, fn129_keep]
theorem hget_hset_ne {H : Heap} {i j : Id} (h : ¬ i = j) (o : AObj) : hget (hset H i o) j = hget H j := by
  cases e : hget H i with
  | none =>
    have : hset H i o = H := by
      have fs : ∀ f : Fr, fget f i = none → fset f i o = f := by
        intro f
        induction f with
        | nil => intro _; rfl
        | cons p f ih =>
          obtain ⟨a, b⟩ := p
          intro h'
          by_cases ha : a = i
          · simp [fget, ha] at h'
          · simp only [fget, ha, if_false] at h'
            simp [fset, ha, ih h']
      induction H with
      | nil => rfl
      | cons f r ih =>
        cases e2 : fget f i with
        | some x => simp [hget, e2] at e
        | none => simp only [hget, e2] at e; simp [hset, e2, ih e]
    rw [this]
  | some x =>
    rw [hset_some (C := ⟨H, fun _ => .nilFunc, default, fun _ => True, fun _ _ => False⟩) e j, if_neg h]
/-! 111: smart.without. -/
theorem run111 (h127 : ft 127 = some (.code fn127)) (h128 : ft 128 = some (.code fn128)) (h111 : ft 111 = some (.code fn111)) (h129 : ft 129 = some (.code fn129)) (h76 : ft 76 = some (.ora k76.ora))
    {H : Heap} {id : Id} {ts : List Tr} (hH : hget H id = some (.row true true 23 1 (List.map eTr1 ts))) (hl : ts.length ≤ 1000000) (hok : ∀ t ∈ ts, OkS t) (k : Int) {q : Id} (hid : ∀ l, ¬ q ++ l = id) :
    cwp ft 111 q [.own id ts.length, .int .i64 k] H (fun r H2 => r = .list 1 (List.map eTr1 (noK k ts)) ∧ ∃ o, H2 = hset H id o) := by
  refine run_fn (fn := fn111) h111 rfl ?_
  have h0 := hid [0]
  have h1 := hid [1]
  have h4 : ¬ q ++ [4] ++ [0] = id := by rw [List.append_assoc]; exact hid _
  simp only [fn111_body, c111, D0, ains, clsOf, abin, aint, aun, dnext, rowsOf, loadObj, cellsOf, ofCells, bnd, hmerge, Nat.reduceBEq, Nat.reduceAdd, reduceIte, Nat.reduceEqDiff, Nat.reduceLeDiff, Int.reduceEq, reduceCtorEq, Int.reduceBEq, Int.reduceBNe, Int.reduceLT, Int.reduceNeg, hH, h0, h1]
  have hH' : hget ([(q ++ [1], AObj.row true true 23 1 []), (q ++ [0], AObj.box [AV.int IntKind.i64 k])] :: H) id = some (.row true true 23 1 (List.map eTr1 ts)) := by simpa [hget, fget, h0, h1] using hH
  refine cg_use (run128 (p := fun t => decide (rk t = k)) (c := 129) h127 h128 hH' hl (by decide) h4 (fun G => hget G (q ++ [0]) = some (.box [.int .i64 k])) ?_ ?_ ?_ ?_ ?_) ?_
  · simp [hget, fget]
  · intro G h; simpa [hget, fget] using h
  · intro G o h; simpa [hget, fget] using h
  · intro G o h; rw [hget_hset_ne (Ne.symm h0)]; exact h
  · intro t ht G hG q'
    exact run129 h129 h76 (hok t ht) hG q'
  rintro v H2 ⟨rfl, o, rfl⟩
  have hr : ts.filter (fun t => !decide (rk t = k)) = noK k ts := by
    unfold noK
    congr 1
    funext t
    simp
  have g0 : fget [(q ++ [1], AObj.row true true 23 1 []), (q ++ [0], AObj.box [AV.int IntKind.i64 k])] id = none := by simp [fget, h0, h1]
  simp only [D0, ains, clsOf, abin, aint, aun, dnext, rowsOf, loadObj, cellsOf, ofCells, bnd, hmerge, Nat.reduceBEq, Nat.reduceAdd, reduceIte, Nat.reduceEqDiff, Nat.reduceLeDiff, Int.reduceEq, reduceCtorEq, Int.reduceBEq, Int.reduceBNe, Int.reduceLT, Int.reduceNeg, hr, g0]
  simp only [F1, bodyRes, one, ains, clsOf, abin, aint, aun, dnext, rowsOf, loadObj, cellsOf, ofCells, bnd, hmerge, Nat.reduceBEq, Nat.reduceAdd, reduceIte, Nat.reduceEqDiff, Nat.reduceLeDiff, Int.reduceEq, reduceCtorEq, Int.reduceBEq, Int.reduceBNe, Int.reduceLT, Int.reduceNeg, fn111_res, fn111_keep]
  exact ⟨_, rfl⟩
end
end Go.Proofs.Abs
