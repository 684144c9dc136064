/- A part of a proof: the text that states the row tells what is proved. No condition is laid on anything. -/
import Derived.Test.YtligpalonlliaaaGreatAbsZ3
set_option linter.all false
set_option linter.constructorNameAsVariable false
set_option linter.defProp false
set_option linter.unusedVariables false
set_option linter.unusedSimpArgs false
set_option maxRecDepth 100000
set_option maxHeartbeats 16000000
namespace Go.Proofs.Abs
open Go
/-! 1019: refine.split. -/
noncomputable def r4 : FT := upd (upd (r3) 26 k1020.ora) 50 k1028.ora
theorem r4_ok : FTOK Tryz.prog r4 := upd_ok2 (f := 50) (upd_ok2 (f := 26) (r3_ok) ook1020) ook1028

abbrev K2 := Int × Int
def ddA (a : List K2) (k : K2) : List K2 := if k ∈ a then a else a ++ [k]
def dd (l : List K2) : List K2 := l.foldl ddA []
theorem dd_snoc (l : List K2) (k : K2) : dd (l ++ [k]) = ddA (dd l) k := by
  unfold dd
  rw [List.foldl_append]
  rfl
theorem mem_ddA (a : List K2) (x k : K2) : k ∈ ddA a x ↔ k ∈ a ∨ k = x := by
  unfold ddA
  split
  · rename_i hx
    constructor
    · exact .inl
    · rintro (q | q)
      · exact q
      · exact q ▸ hx
  · simp
theorem mem_dd (l : List K2) (k : K2) : k ∈ dd l ↔ k ∈ l := by
  have h : ∀ (l a : List K2) (k : K2), k ∈ l.foldl ddA a ↔ k ∈ a ∨ k ∈ l := by
    intro l
    induction l with
    | nil => intro a k; simp
    | cons x l ih =>
      intro a k
      rw [List.foldl_cons, ih, mem_ddA, List.mem_cons, or_assoc]
  have := h l [] k
  simp only [List.not_mem_nil, false_or] at this
  exact this
theorem dd_length (l : List K2) : (dd l).length ≤ l.length := by
  have h : ∀ (l a : List K2), (l.foldl ddA a).length ≤ a.length + l.length := by
    intro l
    induction l with
    | nil => intro a; simp
    | cons x l ih =>
      intro a
      have h1 := ih (ddA a x)
      have h2 : (ddA a x).length ≤ a.length + 1 := by unfold ddA; split <;> simp
      simp only [List.foldl_cons, List.length_cons]
      omega
  have := h l []
  simpa [dd] using this
def idxK (l : List K2) (k : K2) : Int := ((dd l).idxOf k : Nat)
def numL (l : List K2) : List Int := l.map (idxK l)
def outU (l : List K2) (i : Nat) : List Int := (l.take i).map (idxK (l.take i)) ++ List.replicate (l.length - i) 0
theorem outU_zero (l : List K2) : outU l 0 = List.replicate l.length 0 := by simp [outU]
theorem outU_all (l : List K2) : outU l l.length = numL l := by simp [outU, numL]
theorem idxK_snoc {l : List K2} {k x : K2} (hx : x ∈ l) : idxK (l ++ [k]) x = idxK l x := by
  unfold idxK
  rw [dd_snoc]
  unfold ddA
  split
  · rfl
  · rw [List.idxOf_append, if_pos ((mem_dd l x).2 hx)]
theorem outU_next {l : List K2} {i : Nat} (h : i < l.length) : (outU l i).set i (idxK (l.take (i + 1)) (l.getD i (0, 0))) = outU l (i + 1) := by
  have hl : ((l.take i).map (idxK (l.take i))).length = i := by simp; omega
  have e1 : l.length - i = l.length - (i + 1) + 1 := by omega
  have e2 : l.take (i + 1) = l.take i ++ [l.getD i (0, 0)] := take_snoc h
  unfold outU
  rw [e1, List.replicate_succ, List.set_append_right _ _ (by omega), hl, Nat.sub_self, List.set_cons_zero, e2, List.map_append, List.append_assoc]
  congr 1
  exact (List.map_congr_left fun x hx => idxK_snoc hx).symm
theorem outU_length {l : List K2} {i : Nat} (h : i ≤ l.length) : (outU l i).length = l.length := by simp [outU]; omega
def keyA (k : K2) : AV := .agg [.int .i64 k.1, .int .i64 k.2]
def entK : List K2 → Nat → List (AV × AV)
  | [], _ => []
  | k :: r, n => (keyA k, .int .i64 (n : Int)) :: entK r (n + 1)
theorem entK_length : ∀ (l : List K2) (n : Nat), (entK l n).length = l.length
  | [], _ => rfl
  | _ :: r, n => by simp [entK, entK_length r]
theorem keyEqA (a b : K2) : keyEq 3 [0, 0] (keyA a) (keyA b) = some (decide (a = b)) := by
  obtain ⟨a1, a2⟩ := a
  obtain ⟨b1, b2⟩ := b
  simp only [keyA, keyEq, acells, abin, aint, Prod.mk.injEq]
  by_cases h1 : a1 = b1 <;> by_cases h2 : a2 = b2 <;> simp [h1, h2]
theorem mfind_ent : ∀ (l : List K2) (n : Nat) (k : K2), mfind 3 [0, 0] (entK l n) (keyA k) = some (if k ∈ l then some (.int .i64 ((n + l.idxOf k : Nat) : Int)) else none)
  | [], n, k => by simp [entK, mfind, keyEqA]
  | x :: r, n, k => by
    have ih := mfind_ent r (n + 1) k
    simp only [entK, mfind, keyEqA]
    by_cases h : k = x
    · subst h
      simp
    · have h' : ¬ x = k := fun e => h e.symm
      simp only [h, decide_false, ih, List.mem_cons, false_or]
      by_cases hm : k ∈ r
      · simp only [hm, if_true, List.idxOf_cons, beq_iff_eq, h', if_false]
        congr 4
        have : (x == k) = false := by simpa using h'
        simp [this]
        omega
      · simp [hm]
theorem mput_ent : ∀ (l : List K2) (n : Nat) (k : K2), k ∉ l → mput 3 [0, 0] (entK l n) (keyA k) (.int .i64 ((n + l.length : Nat) : Int)) = some (entK (l ++ [k]) n)
  | [], n, k, _ => by simp [entK, mput, keyEqA]
  | x :: r, n, k, h => by
    have h1 : k ≠ x := fun e => h (by simp [e])
    have ih := mput_ent r (n + 1) k (fun e => h (by simp [e]))
    simp only [entK, mput, keyEqA, h1, decide_false, List.length_cons, List.cons_append]
    rw [show n + (r.length + 1) = n + 1 + r.length by omega, ih]
    rfl
def keysS (parts from_ : List Int) (s : List R2) : List K2 := List.zipWith (fun p v => (p, if inS v s then 1 else 0)) parts from_
theorem keysS_get {parts from_ : List Int} {s : List R2} {j : Nat} (h1 : j < parts.length) (h2 : j < from_.length) : (keysS parts from_ s).getD j (0, 0) = (parts.getD j 0, if inS (from_.getD j 0) s then 1 else 0) := by
  simp [keysS, List.getElem?_zipWith, List.getElem?_eq_getElem h1, List.getElem?_eq_getElem h2]
theorem repI_map (n : Nat) : List.replicate n [AV.int .i64 0] = List.map (fun x => [AV.int .i64 x]) (List.replicate n 0) := by simp
theorem setI_map (l : List Int) (k : Nat) (b : Int) : (List.map (fun x => [AV.int .i64 x]) l).set k [AV.int .i64 b] = List.map (fun x => [AV.int .i64 x]) (l.set k b) := by simp [List.map_set]
theorem run1019 (parts from_ : List Int) (s : List R2) (hl : parts.length ≤ 100000) (hpf : parts.length = from_.length) (hs : s.length ≤ 1000000) (gs : goodS s = true) :
    cwp r4 25 [] [(AV.list 1 (List.map (fun x => [AV.int .i64 x]) (parts))), (AV.list 1 (List.map (fun x => [AV.int .i64 x]) (from_))), (AV.list 2 (List.map (fun x => [AV.int .i64 x.1, AV.int .i64 x.2]) (s)))] [] (fun r H => r = (AV.list 1 (List.map (fun x => [AV.int .i64 x]) (numL (keysS parts from_ s)))) ∧ H = []) := by
  refine run_fn (fn := fn1019) rfl rfl ?_
  have hz : ((parts.length : Nat) : Int) * ((8 : Nat) : Int) ≤ 140737488355328 := by omega
  have hKl : (keysS parts from_ s).length = parts.length := by simp [keysS]; omega
  have hm0 := repI_map parts.length
  rw [← hKl, ← outU_zero, hKl] at hm0
  have hz2 : ((parts.length : Nat) : Int) * 8 ≤ 140737488355328 := by omega
  simp only [fn1019_body, c1019, D0, ains, appG, clsOf, abin, aint, aun, dnext, rowsOf, loadObj, cellsOf, ofCells, bnd, hmerge, Nat.reduceBEq, Nat.reduceAdd, reduceIte, Nat.reduceEqDiff, Nat.reduceLeDiff, Int.reduceEq, reduceCtorEq, Int.reduceBEq, Int.reduceBNe, Int.reduceLT, Int.reduceNeg, hz, hm0, Int.natCast_nonneg, Int.toNat_natCast]
  generalize hK : keysS parts from_ s = K at hKl ⊢
  refine lg_rule (fun j e H => e = [(0, (AV.list 1 (List.map (fun x => [AV.int .i64 x]) (parts)))), (1, (AV.list 1 (List.map (fun x => [AV.int .i64 x]) (from_)))), (2, (AV.list 2 (List.map (fun x => [AV.int .i64 x.1, AV.int .i64 x.2]) (s)))), (6, .own [0] 0), (7, .map [1]), (8, .own [5] parts.length), (18, (AV.list 1 (List.map (fun x => [AV.int .i64 x]) (parts)))), (19, .int .i64 parts.length), (20, .int .i64 j)] ∧
    H = [[([5], .row true true 3 1 (List.map (fun x => [AV.int .i64 x]) (outU K j))), ([1], .map (entK (dd (K.take j)) 0)), ([0], .row true true 3 1 [])]] ∧ j ≤ parts.length) parts.length ?_ ?_
  · exact ⟨rfl, rfl, by simp⟩
  rintro j e H ⟨rfl, rfl, hj⟩
  simp only [D0, ains, appG, clsOf, abin, aint, aun, dnext, rowsOf, loadObj, cellsOf, ofCells, bnd, hmerge, Nat.reduceBEq, Nat.reduceAdd, reduceIte, Nat.reduceEqDiff, Nat.reduceLeDiff, Int.reduceEq, reduceCtorEq, Int.reduceBEq, Int.reduceBNe, Int.reduceLT, Int.reduceNeg]
  by_cases h : j < parts.length
  · have h' : (j : Int) < (parts.length : Int) := by omega
    have hf' : (j : Int) < (from_.length : Int) := by omega
    have hp := wrapp (j := j) (by omega)
    have hgp := getI h
    have hgf := getI (l := from_) (j := j) (by omega)
    have hk := keysS_get (parts := parts) (from_ := from_) (s := s) (j := j) h (by omega)
    have hnx := outU_next (l := K) (i := j) (by omega)
    have hol := (outU_length (l := K) (i := j) (by omega)).trans hKl
    have hge := getI (l := outU K j) (j := j) (by omega)
    have hsn := dd_snoc (K.take j) (K.getD j (0, 0))
    rw [← take_snoc (by omega)] at hsn
    rw [hK] at hk
    have hdl := dd_length (K.take j)
    have hdl2 : (K.take j).length ≤ j := by simp; omega
    have hfind := mfind_ent (dd (K.take j)) 0 (K.getD j (0, 0))
    have hput := mput_ent (dd (K.take j)) 0 (K.getD j (0, 0))
    have hel := entK_length (dd (K.take j)) 0
    have hidx : idxK (K.take (j + 1)) (K.getD j (0, 0)) = ((if K.getD j (0, 0) ∈ dd (K.take j) then (dd (K.take j)).idxOf (K.getD j (0, 0)) else (dd (K.take j)).length : Nat) : Int) := by
      unfold idxK
      rw [hsn]
      unfold ddA
      split
      · rfl
      · rename_i hq
        rw [List.idxOf_append, if_neg hq]
        simp
    generalize K.getD j (0, 0) = kk at hk hnx hsn hfind hput hidx
    generalize dd (K.take j) = D at hsn hdl hfind hput hel hidx ⊢
    generalize parts.getD j 0 = p at hgp hk
    generalize from_.getD j 0 = v at hgf hk
    rw [hidx] at hnx
    simp only [Nat.zero_add] at hfind hput
    cases hin : inS v s with
    | true =>
      rw [hin] at hk
      simp only [if_true, if_false, Bool.false_eq_true] at hk
      subst hk
      simp only [keyA] at hfind hput
      by_cases hm : (p, (1 : Int)) ∈ D
      · have hsn2 : dd (K.take (j + 1)) = D := by rw [hsn]; unfold ddA; rw [if_pos hm]
        simp only [hm, if_true] at hfind hnx
        simp only [D0, ains, appG, clsOf, abin, aint, aun, dnext, rowsOf, loadObj, cellsOf, ofCells, bnd, hmerge, Nat.reduceBEq, Nat.reduceAdd, reduceIte, Nat.reduceEqDiff, Nat.reduceLeDiff, Int.reduceEq, reduceCtorEq, Int.reduceBEq, Int.reduceBNe, Int.reduceLT, Int.reduceNeg, @use_all r4 50 k1028.ora rfl, e1028, hs, gs, h', hf', hgp, hgf, hp, hin, hfind, hol, hge, h, decide_true, Int.natCast_nonneg, Int.toNat_natCast, List.length_map]
        simp only [F1, bodyRes, one, ains, appG, clsOf, abin, aint, aun, dnext, rowsOf, loadObj, cellsOf, ofCells, bnd, hmerge, Nat.reduceBEq, Nat.reduceAdd, reduceIte, Nat.reduceEqDiff, Nat.reduceLeDiff, Int.reduceEq, reduceCtorEq, Int.reduceBEq, Int.reduceBNe, Int.reduceLT, Int.reduceNeg]
        rw [setI_map, hnx, hsn2]
        exact ⟨⟨rfl, rfl⟩, h⟩
      · have hsn2 : dd (K.take (j + 1)) = D ++ [(p, (1 : Int))] := by rw [hsn]; unfold ddA; rw [if_neg hm]
        simp only [hm, if_false] at hfind hnx
        have hput := hput hm
        simp only [D0, ains, appG, clsOf, abin, aint, aun, dnext, rowsOf, loadObj, cellsOf, ofCells, bnd, hmerge, Nat.reduceBEq, Nat.reduceAdd, reduceIte, Nat.reduceEqDiff, Nat.reduceLeDiff, Int.reduceEq, reduceCtorEq, Int.reduceBEq, Int.reduceBNe, Int.reduceLT, Int.reduceNeg, @use_all r4 50 k1028.ora rfl, e1028, hs, gs, h', hf', hgp, hgf, hp, hin, hfind, hput, hel, hol, hge, h, decide_true, Int.natCast_nonneg, Int.toNat_natCast, List.length_map]
        simp only [F1, bodyRes, one, ains, appG, clsOf, abin, aint, aun, dnext, rowsOf, loadObj, cellsOf, ofCells, bnd, hmerge, Nat.reduceBEq, Nat.reduceAdd, reduceIte, Nat.reduceEqDiff, Nat.reduceLeDiff, Int.reduceEq, reduceCtorEq, Int.reduceBEq, Int.reduceBNe, Int.reduceLT, Int.reduceNeg]
        rw [setI_map, hnx, hsn2]
        exact ⟨⟨rfl, rfl⟩, h⟩
    | false =>
      rw [hin] at hk
      simp only [if_true, if_false, Bool.false_eq_true] at hk
      subst hk
      simp only [keyA] at hfind hput
      by_cases hm : (p, (0 : Int)) ∈ D
      · have hsn2 : dd (K.take (j + 1)) = D := by rw [hsn]; unfold ddA; rw [if_pos hm]
        simp only [hm, if_true] at hfind hnx
        simp only [D0, ains, appG, clsOf, abin, aint, aun, dnext, rowsOf, loadObj, cellsOf, ofCells, bnd, hmerge, Nat.reduceBEq, Nat.reduceAdd, reduceIte, Nat.reduceEqDiff, Nat.reduceLeDiff, Int.reduceEq, reduceCtorEq, Int.reduceBEq, Int.reduceBNe, Int.reduceLT, Int.reduceNeg, @use_all r4 50 k1028.ora rfl, e1028, hs, gs, h', hf', hgp, hgf, hp, hin, hfind, hol, hge, h, decide_true, Int.natCast_nonneg, Int.toNat_natCast, List.length_map]
        simp only [F1, bodyRes, one, ains, appG, clsOf, abin, aint, aun, dnext, rowsOf, loadObj, cellsOf, ofCells, bnd, hmerge, Nat.reduceBEq, Nat.reduceAdd, reduceIte, Nat.reduceEqDiff, Nat.reduceLeDiff, Int.reduceEq, reduceCtorEq, Int.reduceBEq, Int.reduceBNe, Int.reduceLT, Int.reduceNeg]
        rw [setI_map, hnx, hsn2]
        exact ⟨⟨rfl, rfl⟩, h⟩
      · have hsn2 : dd (K.take (j + 1)) = D ++ [(p, (0 : Int))] := by rw [hsn]; unfold ddA; rw [if_neg hm]
        simp only [hm, if_false] at hfind hnx
        have hput := hput hm
        simp only [D0, ains, appG, clsOf, abin, aint, aun, dnext, rowsOf, loadObj, cellsOf, ofCells, bnd, hmerge, Nat.reduceBEq, Nat.reduceAdd, reduceIte, Nat.reduceEqDiff, Nat.reduceLeDiff, Int.reduceEq, reduceCtorEq, Int.reduceBEq, Int.reduceBNe, Int.reduceLT, Int.reduceNeg, @use_all r4 50 k1028.ora rfl, e1028, hs, gs, h', hf', hgp, hgf, hp, hin, hfind, hput, hel, hol, hge, h, decide_true, Int.natCast_nonneg, Int.toNat_natCast, List.length_map]
        simp only [F1, bodyRes, one, ains, appG, clsOf, abin, aint, aun, dnext, rowsOf, loadObj, cellsOf, ofCells, bnd, hmerge, Nat.reduceBEq, Nat.reduceAdd, reduceIte, Nat.reduceEqDiff, Nat.reduceLeDiff, Int.reduceEq, reduceCtorEq, Int.reduceBEq, Int.reduceBNe, Int.reduceLT, Int.reduceNeg]
        rw [setI_map, hnx, hsn2]
        exact ⟨⟨rfl, rfl⟩, h⟩
  · have h' : ¬ (j : Int) < (parts.length : Int) := by omega
    have hjl : j = parts.length := by omega
    subst hjl
    rw [← hKl, outU_all, hKl]
    simp only [D0, ains, appG, clsOf, abin, aint, aun, dnext, rowsOf, loadObj, cellsOf, ofCells, bnd, hmerge, Nat.reduceBEq, Nat.reduceAdd, reduceIte, Nat.reduceEqDiff, Nat.reduceLeDiff, Int.reduceEq, reduceCtorEq, Int.reduceBEq, Int.reduceBNe, Int.reduceLT, Int.reduceNeg, h', decide_false]
    refine .inr ⟨by simp, ?_⟩
    have hnl : (numL K).length = parts.length := by simp [numL, hKl]
    simp only [F1, bodyRes, one, ains, appG, clsOf, abin, aint, aun, dnext, rowsOf, loadObj, cellsOf, ofCells, bnd, hmerge, Nat.reduceBEq, Nat.reduceAdd, reduceIte, Nat.reduceEqDiff, Nat.reduceLeDiff, Int.reduceEq, reduceCtorEq, Int.reduceBEq, Int.reduceBNe, Int.reduceLT, Int.reduceNeg, fn1019_res, fn1019_keep, fz, fzd, fzd.fzcells, hnl]
theorem splitInj : ∀ x y : List Int × List Int × List R2, [(AV.list 1 (List.map (fun x => [AV.int .i64 x]) (x.1))), (AV.list 1 (List.map (fun x => [AV.int .i64 x]) (x.2.1))), (AV.list 2 (List.map (fun x => [AV.int .i64 x.1, AV.int .i64 x.2]) (x.2.2)))] = [(AV.list 1 (List.map (fun x => [AV.int .i64 x]) (y.1))), (AV.list 1 (List.map (fun x => [AV.int .i64 x]) (y.2.1))), (AV.list 2 (List.map (fun x => [AV.int .i64 x.1, AV.int .i64 x.2]) (y.2.2)))] → x = y := by
  rintro ⟨a, b, c⟩ ⟨d, e, f⟩ h
  simp only [List.cons.injEq, and_true] at h
  rw [eRow_inj (a := a) (b := d) h.1, eRow_inj (a := b) (b := e) h.2.1, eSet_inj (a := c) (b := f) h.2.2]
noncomputable def k1019 : Kon (List Int × List Int × (List (Int × Int))) := ⟨fun x => x.1.length ≤ 100000 ∧ x.1.length = x.2.1.length ∧ x.2.2.length ≤ 1000000 ∧ goodS x.2.2 = true, fun x => [(AV.list 1 (List.map (fun x => [AV.int .i64 x]) (x.1))), (AV.list 1 (List.map (fun x => [AV.int .i64 x]) (x.2.1))), (AV.list 2 (List.map (fun x => [AV.int .i64 x.1, AV.int .i64 x.2]) (x.2.2)))], fun x => (AV.list 1 (List.map (fun x => [AV.int .i64 x]) (numL (keysS x.1 x.2.1 x.2.2))))⟩
theorem e1019 (parts : List Int) (from_ : List Int) (s : List (Int × Int)) (hd : parts.length ≤ 100000 ∧ parts.length = from_.length ∧ s.length ≤ 1000000 ∧ goodS s = true) (q0 : Id) (H0 : Heap) : k1019.ora q0 ([(AV.list 1 (List.map (fun x => [AV.int .i64 x]) (parts))), (AV.list 1 (List.map (fun x => [AV.int .i64 x]) (from_))), (AV.list 2 (List.map (fun x => [AV.int .i64 x.1, AV.int .i64 x.2]) (s)))]) H0 = some ((AV.list 1 (List.map (fun x => [AV.int .i64 x]) (numL (keysS parts from_ s)))), H0) := k1019.eq (splitInj) (parts, from_, s) hd q0 H0
theorem ook1019 : OraOK Tryz.prog (25 % 100000) k1019.ora := k1019.ok orders r4_ok (fun x hd => by simp [k1019, PU]) (fun x hd => by simp [k1019, PU]) (fun x hd => run1019 x.1 x.2.1 x.2.2 hd.1 hd.2.1 hd.2.2.1 hd.2.2.2)

noncomputable def r5 : FT := upd (r4) 25 k1019.ora
theorem r5_ok : FTOK Tryz.prog r5 := upd_ok2 (f := 25) (r4_ok) ook1019

end Go.Proofs.Abs
