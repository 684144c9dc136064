/- A part of a proof: the text that states the row tells what is proved. No condition is laid on anything. -/
import Derived.Test.YtgcncpedpjjjeaaAbsM2
set_option linter.all false
set_option linter.constructorNameAsVariable false
set_option linter.defProp false
set_option linter.unusedVariables false
set_option linter.unusedSimpArgs false
set_option maxRecDepth 100000
set_option maxHeartbeats 4000000
namespace Go.Proofs.Abs
open Go
/-! 79: smart.members. -/
theorem OkS.l {a b : Tr} (h : OkS (.alt a b)) : OkS a ∧ OkS b := by
  obtain ⟨⟨h1, h2⟩, h3⟩ := h
  simp only [sz] at h3
  exact ⟨⟨h1, by omega⟩, h2, by omega⟩
theorem OkS.dec {x : Tr} (h : OkS x) : dec (enc x) = x := dec_enc h.1 h.2
theorem OkS.len {x : Tr} (h : OkS x) : (enc x).length ≤ 40000 := by rw [enc_len]; exact h.2
theorem OkS.parts {a b : Tr} (h : OkS (.alt a b)) : partOK (enc (.alt a b)) = true ∧ partA (enc (.alt a b)) = enc a ∧ partB (enc (.alt a b)) = enc b :=
  parts_join (.inr rfl) h.l.1.good h.l.2.good (by rw [enc_len, enc_len]; exact h.2)
theorem okS_of {t : List Nd} (h : SmS t ∧ goodT t = true) : ∃ x, OkS x ∧ enc x = t := by
  obtain ⟨h1, h2, h3, h4⟩ := dec_spec h.1 h.2
  exact ⟨_, ⟨h1, h4⟩, h2⟩
theorem pureL_eTr1 (l : List Tr) : (∀ r ∈ List.map eTr1 l, ∀ a ∈ r, Pure a) = True := by
  have := pure_eTr1 l
  rw [pure_list] at this
  exact this
theorem eTr1_app (l m : List Tr) : List.map eTr1 l ++ List.map eTr1 m = List.map eTr1 (l ++ m) := by simp
theorem mems_len (x : Tr) : (mems x).length ≤ sz x := by
  induction x with
  | alt a b iha ihb => simp only [mems, List.length_append, sz]; omega
  | _ => simp [mems, sz]
noncomputable def k79 : KonO (List Nd) := ⟨fun x => SmS x ∧ goodT x = true, fun x => [(AV.list 5 (List.map eNd x))], 23, 1, fun x => List.map eTr1 (mems (dec x))⟩
theorem i79 : ∀ a b, k79.enc a = k79.enc b → a = b := treeInj2
theorem e79 (t : List Nd) (hd : SmS t ∧ goodT t = true) (q0 : Id) (H0 : Heap) : k79.ora q0 ([(AV.list 5 (List.map eNd t))]) H0 = some (.own (q0 ++ [0]) (List.map eTr1 (mems (dec t))).length, hadd H0 (q0 ++ [0]) (.row true true 23 1 (List.map eTr1 (mems (dec t))))) := k79.eq i79 (t) hd q0 H0
noncomputable def r79 (n : Nat) : KonO (List Nd) := ⟨fun x => k79.dom x ∧ (fun x => x.length) x < n, k79.enc, 23, 1, k79.out⟩
theorem er79 {n : Nat} (t : List Nd) (hd : (SmS t ∧ goodT t = true) ∧ (t.length) < n) (q0 : Id) (H0 : Heap) : (r79 n).ora q0 ([(AV.list 5 (List.map eNd t))]) H0 = some (.own (q0 ++ [0]) (List.map eTr1 (mems (dec t))).length, hadd H0 (q0 ++ [0]) (.row true true 23 1 (List.map eTr1 (mems (dec t))))) := (r79 n).eq i79 (t) hd q0 H0
noncomputable def z79 (n : Nat) : FT := updC (upd s2 79 (r79 n).ora) 200079 fn79

theorem run79 (n : Nat) (t : List Nd) (hd : (SmS t ∧ goodT t = true) ∧ t.length < n + 1) : cwp (z79 n) 200079 [] [(AV.list 5 (List.map eNd t))] [] (fun v H => ∃ id, v = .own id (List.map eTr1 (mems (dec t))).length ∧ H = [[(id, .row true true 23 1 (List.map eTr1 (mems (dec t))))]]) := by
  refine run_fn (fn := fn79) rfl rfl ?_
  obtain ⟨hd, hn⟩ := hd
  obtain ⟨x, hx, rfl⟩ := okS_of hd
  rw [hx.dec]
  have hne := hx.ne
  have hk := lastN_enc x
  by_cases h4 : rk x = 4
  · obtain ⟨a, b, rfl⟩ := rk_alt hx.1 h4
    obtain ⟨h1, h2⟩ := hx.l
    obtain ⟨p1, p2, p3⟩ := hx.parts
    have hl := hx.2
    rw [enc_len] at hn
    simp only [sz] at hn hl
    have da : (SmS (enc a) ∧ goodT (enc a) = true) ∧ (enc a).length < n := ⟨⟨h1.sm, h1.good⟩, by rw [enc_len]; omega⟩
    have db : (SmS (enc b) ∧ goodT (enc b) = true) ∧ (enc b).length < n := ⟨⟨h2.sm, h2.good⟩, by rw [enc_len]; omega⟩
    have dx := h1.dec
    have dy := h2.dec
    have c1 : ((mems a).length + (mems b).length) * 24 ≤ 140737488355328 := by
      have := mems_len a
      have := mems_len b
      omega
    have hs := hx.sm
    have hm : mems (.alt a b) = mems a ++ mems b := rfl
    simp only [fn79_body, c79, D0, ains, clsOf, abin, aint, aun, dnext, rowsOf, loadObj, cellsOf, ofCells, bnd, hmerge, Nat.reduceBEq, Nat.reduceAdd, reduceIte, Nat.reduceEqDiff, Nat.reduceLeDiff, Int.reduceEq, reduceCtorEq, Int.reduceBEq, Int.reduceBNe, Int.reduceLT, Int.reduceNeg, @use_all (z79 n) 76 k76.ora rfl, e76, @use_all (z79 n) 23 k23.ora rfl, e23, @use_all (z79 n) 79 (r79 n).ora rfl, er79, hne, hk, h4, hs, p1, p2, p3, da, db, dx, dy, c1]
    simp only [F1, bodyRes, one, ains, clsOf, abin, aint, aun, dnext, rowsOf, loadObj, cellsOf, ofCells, bnd, hmerge, Nat.reduceBEq, Nat.reduceAdd, reduceIte, Nat.reduceEqDiff, Nat.reduceLeDiff, Int.reduceEq, reduceCtorEq, Int.reduceBEq, Int.reduceBNe, Int.reduceLT, Int.reduceNeg, fn79_res, fn79_keep, eTr1_app, hm, List.length_append]
    exact ⟨_, rfl, rfl⟩
  · have hm : mems x = [x] := by cases x <;> first | rfl | exact absurd rfl h4
    simp only [fn79_body, c79, D0, ains, clsOf, abin, aint, aun, dnext, rowsOf, loadObj, cellsOf, ofCells, bnd, hmerge, Nat.reduceBEq, Nat.reduceAdd, reduceIte, Nat.reduceEqDiff, Nat.reduceLeDiff, Int.reduceEq, reduceCtorEq, Int.reduceBEq, Int.reduceBNe, Int.reduceLT, Int.reduceNeg, @use_all (z79 n) 76 k76.ora rfl, e76, @use_all (z79 n) 23 k23.ora rfl, e23, hne, hk, h4, fz, fzd, eTr1, hm]
    simp only [F1, bodyRes, one, ains, clsOf, abin, aint, aun, dnext, rowsOf, loadObj, cellsOf, ofCells, bnd, hmerge, Nat.reduceBEq, Nat.reduceAdd, reduceIte, Nat.reduceEqDiff, Nat.reduceLeDiff, Int.reduceEq, reduceCtorEq, Int.reduceBEq, Int.reduceBNe, Int.reduceLT, Int.reduceNeg, fn79_res, fn79_keep, hm, eTr1]
    exact ⟨_, rfl, rfl⟩
theorem ook79 : OraOK Try.prog (79 % 100000) k79.ora := oraO_rec (fun x => x.length) (fun a b _ _ h => i79 a b h) fun n h => (r79 (n + 1)).ok (f := 200079) orders (updC_ok (upd_ok2 (f := 79) s2_ok h) ok79) (fun x hd => by simp [r79, k79, PU]) (fun x hd => by dsimp only [r79, k79]; simp only [PU, pureL_eTr1]) (fun x hd => run79 n x hd)

noncomputable def s3 : FT := upd (s2) 79 k79.ora
theorem s3_ok : FTOK Try.prog s3 := upd_ok2 (f := 79) (s2_ok) ook79

end Go.Proofs.Abs

set_option linter.all false
set_option linter.constructorNameAsVariable false
set_option linter.defProp false
set_option linter.unusedVariables false
set_option linter.unusedSimpArgs false
set_option maxRecDepth 100000
set_option maxHeartbeats 4000000
namespace Go.Proofs.Abs
open Go
section
variable {ft : FT}
/-! 108, 110, 129: smart's closures. -/
theorem run108 (h108 : ft 108 = some (.code fn108)) (h109 : ft 109 = some (.ora k109.ora)) {t x : Tr} (ht : OkS t) (hx : OkS x) {H : Heap} {id : Id} (hH : hget H id = some (.box [(AV.list 5 (List.map eNd (enc x)))])) (q : Id) :
    cwp ft 108 q [(AV.list 5 (List.map eNd (enc t))), .ref id 1 0 0] H (fun r H2 => r = .bool (decide (t = x)) ∧ H2 = H) := by
  refine run_fn (fn := fn108) h108 rfl ?_
  have hd : (SmS (enc t) ∧ 1 ≤ (enc t).length) ∧ 1 ≤ (enc x).length ∧ (enc x).length ≤ 9223372036854775807 := ⟨⟨ht.sm, ht.ne.1⟩, hx.ne⟩
  have hs := sameT_enc ht hx
  simp only [fn108_body, c108, D0, ains, clsOf, abin, aint, aun, dnext, rowsOf, loadObj, cellsOf, ofCells, bnd, hmerge, Nat.reduceBEq, Nat.reduceAdd, reduceIte, Nat.reduceEqDiff, Nat.reduceLeDiff, Int.reduceEq, reduceCtorEq, Int.reduceBEq, Int.reduceBNe, Int.reduceLT, Int.reduceNeg, @use_all ft 109 k109.ora h109, e109, hd, hs, hH]
  simp only [F1, bodyRes, one, ains, clsOf, abin, aint, aun, dnext, rowsOf, loadObj, cellsOf, ofCells, bnd, hmerge, Nat.reduceBEq, Nat.reduceAdd, reduceIte, Nat.reduceEqDiff, Nat.reduceLeDiff, Int.reduceEq, reduceCtorEq, Int.reduceBEq, Int.reduceBNe, Int.reduceLT, Int.reduceNeg, fn108_res, fn108_keep]
theorem run110 (h110 : ft 110 = some (.code fn110)) (h76 : ft 76 = some (.ora k76.ora)) {t : Tr} (ht : OkS t) (H : Heap) (q : Id) :
    cwp ft 110 q [(AV.list 5 (List.map eNd (enc t)))] H (fun r H2 => r = .bool (decide (rk t = 5)) ∧ H2 = H) := by
  refine run_fn (fn := fn110) h110 rfl ?_
  have hn := ht.ne
  have hk := lastN_enc t
  simp only [fn110_body, c110, D0, ains, clsOf, abin, aint, aun, dnext, rowsOf, loadObj, cellsOf, ofCells, bnd, hmerge, Nat.reduceBEq, Nat.reduceAdd, reduceIte, Nat.reduceEqDiff, Nat.reduceLeDiff, Int.reduceEq, reduceCtorEq, Int.reduceBEq, Int.reduceBNe, Int.reduceLT, Int.reduceNeg, @use_all ft 76 k76.ora h76, e76, hn, hk]
  simp only [F1, bodyRes, one, ains, clsOf, abin, aint, aun, dnext, rowsOf, loadObj, cellsOf, ofCells, bnd, hmerge, Nat.reduceBEq, Nat.reduceAdd, reduceIte, Nat.reduceEqDiff, Nat.reduceLeDiff, Int.reduceEq, reduceCtorEq, Int.reduceBEq, Int.reduceBNe, Int.reduceLT, Int.reduceNeg, fn110_res, fn110_keep]
theorem run129 (h129 : ft 129 = some (.code fn129)) (h76 : ft 76 = some (.ora k76.ora)) {t : Tr} (ht : OkS t) {H : Heap} {id : Id} {k : Int} (hH : hget H id = some (.box [.int .i64 k])) (q : Id) :
    cwp ft 129 q [(AV.list 5 (List.map eNd (enc t))), .ref id 1 0 0] H (fun r H2 => r = .bool (decide (rk t = k)) ∧ H2 = H) := by
  refine run_fn (fn := fn129) h129 rfl ?_
  have hn := ht.ne
  have hk := lastN_enc t
  simp only [fn129_body, c129, D0, ains, clsOf, abin, aint, aun, dnext, rowsOf, loadObj, cellsOf, ofCells, bnd, hmerge, Nat.reduceBEq, Nat.reduceAdd, reduceIte, Nat.reduceEqDiff, Nat.reduceLeDiff, Int.reduceEq, reduceCtorEq, Int.reduceBEq, Int.reduceBNe, Int.reduceLT, Int.reduceNeg, @use_all ft 76 k76.ora h76, e76, hn, hk, hH]
  simp only [F1, bodyRes, one, ains, clsOf, abin, aint, aun, dnext, rowsOf, loadObj, cellsOf, ofCells, bnd, hmerge, Nat.reduceBEq, Nat.reduceAdd, reduceIte, Nat.reduceEqDiff, Nat.reduceLeDiff, Int.reduceEq, reduceCtorEq, Int.reduceBEq, Int.reduceBNe, Int.reduceLT, Int.reduceNeg, fn129_res, fn129_keep]
theorem hget_hset_ne {H : Heap} {i j : Id} (h : ¬ i = j) (o : AObj) : hget (hset H i o) j = hget H j := by
  cases e : hget H i with
  | none =>
    have : hset H i o = H := by
      have fs : ∀ f : Fr, fget f i = none → fset f i o = f := by
        intro f
        induction f with
        | nil => intro _; rfl
        | cons p f ih =>
          obtain ⟨a, b⟩ := p
          intro h'
          by_cases ha : a = i
          · simp [fget, ha] at h'
          · simp only [fget, ha, if_false] at h'
            simp [fset, ha, ih h']
      induction H with
      | nil => rfl
      | cons f r ih =>
        cases e2 : fget f i with
        | some x => simp [hget, e2] at e
        | none => simp only [hget, e2] at e; simp [hset, e2, ih e]
    rw [this]
  | some x =>
    rw [hset_some (C := ⟨H, fun _ => .nilFunc, default, fun _ => True, fun _ _ => False⟩) e j, if_neg h]
/-! 111: smart.without. -/
theorem run111 (h127 : ft 127 = some (.code fn127)) (h128 : ft 128 = some (.code fn128)) (h111 : ft 111 = some (.code fn111)) (h129 : ft 129 = some (.code fn129)) (h76 : ft 76 = some (.ora k76.ora))
    {H : Heap} {id : Id} {ts : List Tr} (hH : hget H id = some (.row true true 23 1 (List.map eTr1 ts))) (hl : ts.length ≤ 1000000) (hok : ∀ t ∈ ts, OkS t) (k : Int) {q : Id} (hid : ∀ l, ¬ q ++ l = id) :
    cwp ft 111 q [.own id ts.length, .int .i64 k] H (fun r H2 => r = .list 1 (List.map eTr1 (noK k ts)) ∧ ∃ o, H2 = hset H id o) := by
  refine run_fn (fn := fn111) h111 rfl ?_
  have h0 := hid [0]
  have h1 := hid [1]
  have h4 : ¬ q ++ [4] ++ [0] = id := by rw [List.append_assoc]; exact hid _
  simp only [fn111_body, c111, D0, ains, clsOf, abin, aint, aun, dnext, rowsOf, loadObj, cellsOf, ofCells, bnd, hmerge, Nat.reduceBEq, Nat.reduceAdd, reduceIte, Nat.reduceEqDiff, Nat.reduceLeDiff, Int.reduceEq, reduceCtorEq, Int.reduceBEq, Int.reduceBNe, Int.reduceLT, Int.reduceNeg, hH, h0, h1]
  have hH' : hget ([(q ++ [1], AObj.row true true 23 1 []), (q ++ [0], AObj.box [AV.int IntKind.i64 k])] :: H) id = some (.row true true 23 1 (List.map eTr1 ts)) := by simpa [hget, fget, h0, h1] using hH
  refine cg_use (run128 (p := fun t => decide (rk t = k)) (c := 129) h127 h128 hH' hl (by decide) h4 (fun G => hget G (q ++ [0]) = some (.box [.int .i64 k])) ?_ ?_ ?_ ?_ ?_) ?_
  · simp [hget, fget]
  · intro G h; simpa [hget, fget] using h
  · intro G o h; simpa [hget, fget] using h
  · intro G o h; rw [hget_hset_ne (Ne.symm h0)]; exact h
  · intro t ht G hG q'
    exact run129 h129 h76 (hok t ht) hG q'
  rintro v H2 ⟨rfl, o, rfl⟩
  have hr : ts.filter (fun t => !decide (rk t = k)) = noK k ts := by
    unfold noK
    congr 1
    funext t
    simp
  have g0 : fget [(q ++ [1], AObj.row true true 23 1 []), (q ++ [0], AObj.box [AV.int IntKind.i64 k])] id = none := by simp [fget, h0, h1]
  simp only [D0, ains, clsOf, abin, aint, aun, dnext, rowsOf, loadObj, cellsOf, ofCells, bnd, hmerge, Nat.reduceBEq, Nat.reduceAdd, reduceIte, Nat.reduceEqDiff, Nat.reduceLeDiff, Int.reduceEq, reduceCtorEq, Int.reduceBEq, Int.reduceBNe, Int.reduceLT, Int.reduceNeg, hr, g0]
  simp only [F1, bodyRes, one, ains, clsOf, abin, aint, aun, dnext, rowsOf, loadObj, cellsOf, ofCells, bnd, hmerge, Nat.reduceBEq, Nat.reduceAdd, reduceIte, Nat.reduceEqDiff, Nat.reduceLeDiff, Int.reduceEq, reduceCtorEq, Int.reduceBEq, Int.reduceBNe, Int.reduceLT, Int.reduceNeg, fn111_res, fn111_keep]
  exact ⟨_, rfl⟩
end
end Go.Proofs.Abs

set_option linter.all false
set_option linter.constructorNameAsVariable false
set_option linter.defProp false
set_option linter.unusedVariables false
set_option linter.unusedSimpArgs false
set_option maxRecDepth 100000
namespace Go.Proofs.Abs
open Go
/-! ### What is put together plainly, or that it is too large -/
def joinO (k : Int) (a b : Tr) : Option Tr := if sz a + sz b + 1 ≤ 40000 then some (if k = 3 then .cat a b else .alt a b) else none
def starJ (a : Tr) : Option Tr := if sz a + 1 ≤ 40000 then some (.star a) else none
def cat1 (a b : Tr) : Option Tr := if rk a = 0 ∨ rk b = 0 then some never else if rk a = 1 then some b else if rk b = 1 then some a else joinO 3 a b
def catO (a : Tr) : Tr → Option Tr
  | .cat x y => if rk a = 0 then some never else if rk a = 1 then some (.cat x y) else (catO a x).bind fun c => catO c y
  | b => cat1 a b
def altsO : Tr → List Tr → Option Tr
  | x, [] => some x
  | x, y :: r => (joinO 4 x y).bind fun c => altsO c r
def altLO : List Tr → Option Tr
  | [] => none
  | x :: r => altsO x r
def altO (a b : Tr) : Option Tr := if rk a = 0 then some b else if rk b = 0 then some a else altLO (onceT (mems a ++ mems b))
def star1O (a : Tr) : Option Tr := if rk a = 0 ∨ rk a = 1 then some empty else if rk a = 5 then some a else starJ a
def starO (a : Tr) : Option Tr := if rk a = 4 then (if rk (fullT a) = 4 then starJ (fullT a) else star1O (fullT a)) else star1O a
def encO : Option Tr → List Nd
  | some x => enc x
  | none => []
def resO (o : Option Tr) : AV := .tuple [(AV.list 5 (List.map eNd (encO o))), .bool o.isSome]
noncomputable def catT (a b : List Nd) : Option Tr := if goodT a && goodT b then catO (dec a) (dec b) else none
noncomputable def altT (a b : List Nd) : Option Tr := if goodT a && goodT b then altO (dec a) (dec b) else none
noncomputable def starS (a : List Nd) : Option Tr := if goodT a then starO (dec a) else none
noncomputable def cleanS (a : List Nd) : Option Tr := if goodT a then some (sClean (dec a)) else none
theorem catT_enc {x y : Tr} (hx : OkS x) (hy : OkS y) : catT (enc x) (enc y) = catO x y := by simp [catT, hx.good, hy.good, hx.dec, hy.dec]
theorem altT_enc {x y : Tr} (hx : OkS x) (hy : OkS y) : altT (enc x) (enc y) = altO x y := by simp [altT, hx.good, hy.good, hx.dec, hy.dec]
theorem starS_enc {x : Tr} (hx : OkS x) : starS (enc x) = starO x := by simp [starS, hx.good, hx.dec]
theorem cleanS_enc {x : Tr} (hx : OkS x) : cleanS (enc x) = some (sClean x) := by simp [cleanS, hx.good, hx.dec]
theorem catT_no {a b : List Nd} (h : goodT a = false ∨ goodT b = false) : catT a b = none := by rcases h with h | h <;> simp [catT, h]
theorem altT_no {a b : List Nd} (h : goodT a = false ∨ goodT b = false) : altT a b = none := by rcases h with h | h <;> simp [altT, h]
theorem encO_join {k : Int} (hk : k = 3 ∨ k = 4) {a b : Tr} (ha : OkS a) (hb : OkS b) : pairT k (enc a) (enc b) = encO (joinO k a b) ∧ pairB (enc a) (enc b) = (joinO k a b).isSome := by
  have hB : pairB (enc a) (enc b) = decide (sz a + sz b + 1 ≤ 40000) := by simp [pairB, ha.good, hb.good, enc_len]
  unfold pairT joinO
  rw [hB]
  by_cases h : sz a + sz b + 1 ≤ 40000
  · rcases hk with rfl | rfl <;> simp [h, encO, enc]
  · simp [h, encO]
theorem encO_star {a : Tr} (ha : OkS a) : starTT (enc a) = encO (starJ a) ∧ starB (enc a) = (starJ a).isSome := by
  have hB : starB (enc a) = decide (sz a + 1 ≤ 40000) := by simp [starB, ha.good, enc_len]
  unfold starTT starJ
  rw [hB]
  by_cases h : sz a + 1 ≤ 40000
  · simp [h, encO, enc]
  · simp [h, encO]
theorem ok_joinO {k : Int} {a b c : Tr} (ha : OkS a) (hb : OkS b) (h : joinO k a b = some c) : OkS c := by
  unfold joinO at h
  split at h
  · rename_i hs
    injection h with h
    subst h
    split
    · exact ⟨⟨ha.1, hb.1⟩, hs⟩
    · exact ⟨⟨ha.1, hb.1⟩, hs⟩
  · cases h
theorem okS_never : OkS never := ⟨ok_never, by simp [sz]⟩
theorem okS_empty : OkS empty := ⟨ok_empty, by simp [sz]⟩
theorem OkS.c {a b : Tr} (h : OkS (.cat a b)) : OkS a ∧ OkS b := by
  obtain ⟨⟨h1, h2⟩, h3⟩ := h
  simp only [sz] at h3
  exact ⟨⟨h1, by omega⟩, h2, by omega⟩
theorem OkS.s {a : Tr} (h : OkS (.star a)) : OkS a := by
  obtain ⟨h1, h3⟩ := h
  simp only [sz] at h3
  exact ⟨h1, by omega⟩
theorem OkS.partsC {a b : Tr} (h : OkS (.cat a b)) : partOK (enc (.cat a b)) = true ∧ partA (enc (.cat a b)) = enc a ∧ partB (enc (.cat a b)) = enc b :=
  parts_join (.inl rfl) h.c.1.good h.c.2.good (by rw [enc_len, enc_len]; exact h.2)
theorem ok_cat1 {a b c : Tr} (ha : OkS a) (hb : OkS b) (h : cat1 a b = some c) : OkS c := by
  unfold cat1 at h
  split at h
  · injection h with h; subst h; exact okS_never
  split at h
  · injection h with h; subst h; exact hb
  split at h
  · injection h with h; subst h; exact ha
  exact ok_joinO ha hb h
theorem ok_catO : ∀ {b a c : Tr}, OkS a → OkS b → catO a b = some c → OkS c
  | .leaf n, a, c, ha, hb, h => ok_cat1 ha hb h
  | .alt x y, a, c, ha, hb, h => ok_cat1 ha hb h
  | .star x, a, c, ha, hb, h => ok_cat1 ha hb h
  | .cat x y, a, c, ha, hb, h => by
    simp only [catO] at h
    split at h
    · injection h with h; subst h; exact okS_never
    split at h
    · injection h with h; subst h; exact hb
    · cases e : catO a x with
      | none => rw [e] at h; cases h
      | some d => rw [e] at h; exact ok_catO (ok_catO ha hb.c.1 e) hb.c.2 h
theorem catO_no {a b : Tr} (h : rk b ≠ 3) : catO a b = cat1 a b := by
  cases b with
  | cat => exact absurd rfl h
  | _ => rfl
theorem catO_some : ∀ (b a : Tr), sz a + sz b + 1 ≤ 40000 → catO a b = some (sCat a b)
  | .leaf n, a, h => by
    simp only [catO, cat1, sCat, joinO, h, if_true, rk]
    (repeat' split) <;> first | rfl | simp_all
  | .alt x y, a, h => by
    simp only [catO, cat1, sCat, joinO, h, if_true, rk]
    (repeat' split) <;> first | rfl | simp_all
  | .star x, a, h => by
    simp only [catO, cat1, sCat, joinO, h, if_true, rk]
    (repeat' split) <;> first | rfl | simp_all
  | .cat x y, a, h => by
    simp only [sz] at h
    simp only [catO, sCat]
    have h1 := catO_some x a (by omega)
    have := sz_sCat x a
    have h2 := catO_some y (sCat a x) (by omega)
    rw [h1]
    (repeat' split) <;> first | rfl | exact h2
theorem altsO_some : ∀ (r : List Tr) (x : Tr), sz (r.foldl .alt x) ≤ 40000 → altsO x r = some (r.foldl .alt x)
  | [], x, h => rfl
  | y :: r, x, h => by
    have h1 := h
    rw [List.foldl_cons] at h
    have h3 := sz_foldl_alt r (.alt x y)
    simp only [sz] at h3
    have : joinO 4 x y = some (.alt x y) := by simp [joinO]; omega
    simp only [altsO, this, List.foldl_cons]
    exact altsO_some r _ h
theorem altsO_none : ∀ (r : List Tr) (x : Tr), sz x ≤ 40000 → 40000 < sz (r.foldl .alt x) → altsO x r = none
  | [], x, h, h1 => by simp only [List.foldl_nil] at h1; omega
  | y :: r, x, h, h1 => by
    simp only [altsO]
    by_cases h2 : sz x + sz y + 1 ≤ 40000
    · have : joinO 4 x y = some (.alt x y) := by simp [joinO, h2]
      rw [this]
      exact altsO_none r _ (by simp only [sz]; exact h2) h1
    · have : joinO 4 x y = none := by simp [joinO, h2]
      rw [this]; rfl
theorem ok_altsO : ∀ (r : List Tr) (x : Tr) {c : Tr}, OkS x → (∀ y ∈ r, OkS y) → altsO x r = some c → OkS c
  | [], x, c, hx, _, h => by injection h with h; subst h; exact hx
  | y :: r, x, c, hx, hr, h => by
    simp only [altsO] at h
    cases e : joinO 4 x y with
    | none => rw [e] at h; cases h
    | some d => rw [e] at h; exact ok_altsO r d (ok_joinO hx (hr y (by simp)) e) (fun z hz => hr z (by simp [hz])) h
theorem OkS.mems {x : Tr} (h : OkS x) : ∀ y ∈ mems x, OkS y := fun y hy => ⟨ok_mems x h.1 y hy, by
  have h1 := sumS_mems x
  have h2 : sumS [y] ≤ sumS (Abs.mems x) := sumS_sub (List.singleton_sublist.2 hy)
  simp only [sumS, List.map_cons, List.map_nil, List.sum_cons, List.sum_nil] at h2
  have := h.2
  simp only [sumS] at h1
  omega⟩
theorem ok_altO {a b c : Tr} (ha : OkS a) (hb : OkS b) (h : altO a b = some c) : OkS c := by
  unfold altO at h
  split at h
  · injection h with h; subst h; exact hb
  split at h
  · injection h with h; subst h; exact ha
  have hm : ∀ x ∈ onceT (mems a ++ mems b), OkS x := fun x hx => by
    rcases List.mem_append.1 ((onceT_sub _).subset hx) with h | h
    · exact ha.mems x h
    · exact hb.mems x h
  cases e : onceT (mems a ++ mems b) with
  | nil => rw [e] at h; cases h
  | cons x r => rw [e] at h hm; exact ok_altsO r x (hm x (by simp)) (fun y hy => hm y (by simp [hy])) h
theorem altO_some {a b : Tr} (h : sz a + sz b + 1 ≤ 40000) : altO a b = some (sAlt a b) := by
  have hs := sz_sAlt a b
  unfold altO sAlt at *
  split
  · rfl
  split
  · rfl
  have hne := onceT_ne (l := mems a ++ mems b) (by simp [mems_ne])
  rename_i h1 h2
  rw [if_neg h1, if_neg h2] at hs
  cases e : onceT (mems a ++ mems b) with
  | nil => exact absurd e hne
  | cons x r =>
    rw [e] at hs
    exact altsO_some r x (by simp only [altL] at hs; omega)
theorem star1O_some {a : Tr} (h : sz a + 1 ≤ 40000) : star1O a = some (star1 a) := by
  unfold star1O star1 starJ
  (repeat' split) <;> first | rfl | simp_all
theorem starO_some {a : Tr} (h : sz a + 1 ≤ 40000) : starO a = some (sStar a) := by
  have hf := sz_fullT a
  unfold starO sStar
  rw [star1O_some h, star1O_some (a := fullT a) (by omega)]
  simp only [starJ, show sz (fullT a) + 1 ≤ 40000 by omega, if_true]
  (repeat' split) <;> rfl
theorem OkS.full {a : Tr} (h : OkS a) : OkS (fullT a) := ⟨ok_fullT h.1, by have := sz_fullT a; have := h.2; omega⟩
theorem ok_star1O {a c : Tr} (ha : OkS a) (h : star1O a = some c) : OkS c := by
  unfold star1O at h
  split at h
  · injection h with h; subst h; exact okS_empty
  split at h
  · injection h with h; subst h; exact ha
  unfold starJ at h
  split at h
  · rename_i hs; injection h with h; subst h; exact ⟨ha.1, hs⟩
  · cases h
theorem ok_starO {a c : Tr} (ha : OkS a) (h : starO a = some c) : OkS c := by
  unfold starO at h
  split at h
  · split at h
    · unfold starJ at h
      split at h
      · rename_i hs; injection h with h; subst h; exact ⟨ha.full.1, hs⟩
      · cases h
    · exact ok_star1O ha.full h
  · exact ok_star1O ha h
theorem pure_resO (o : Option Tr) : Pure (resO o) = True := by simp [resO, pure_tuple, pure_treeL, pure_bool]
theorem encO_some {o : Option Tr} {x : Tr} (h : o = some x) : encO o = enc x := by rw [h]; rfl
end Go.Proofs.Abs

set_option linter.all false
set_option linter.constructorNameAsVariable false
set_option linter.defProp false
set_option linter.unusedVariables false
set_option linter.unusedSimpArgs false
set_option maxRecDepth 100000
set_option maxHeartbeats 4000000
namespace Go.Proofs.Abs
open Go
/-! 38: smart.Cat. -/
theorem leafT0 : leafT 0 = enc never := rfl
theorem leafT1 : leafT 1 = enc empty := rfl
noncomputable def k38 : Kon (List Nd × List Nd) := ⟨fun x => (SmS x.1 ∧ SmS x.2) ∧ x.1.length ≤ 1000000 ∧ x.2.length ≤ 1000000, fun x => [(AV.list 5 (List.map eNd x.1)), (AV.list 5 (List.map eNd x.2))], fun x => resO (catT x.1 x.2)⟩
theorem i38 : ∀ a b, k38.enc a = k38.enc b → a = b := tree2Inj
theorem e38 (a : List Nd) (b : List Nd) (hd : (SmS a ∧ SmS b) ∧ a.length ≤ 1000000 ∧ b.length ≤ 1000000) (q0 : Id) (H0 : Heap) : k38.ora q0 ([(AV.list 5 (List.map eNd a)), (AV.list 5 (List.map eNd b))]) H0 = some (resO (catT a b), H0) := k38.eq i38 (a, b) hd q0 H0
noncomputable def r38 (n : Nat) : Kon (List Nd × List Nd) := ⟨fun x => k38.dom x ∧ (fun x => x.2.length) x < n, k38.enc, k38.out⟩
theorem er38 {n : Nat} (a : List Nd) (b : List Nd) (hd : ((SmS a ∧ SmS b) ∧ a.length ≤ 1000000 ∧ b.length ≤ 1000000) ∧ (b.length) < n) (q0 : Id) (H0 : Heap) : (r38 n).ora q0 ([(AV.list 5 (List.map eNd a)), (AV.list 5 (List.map eNd b))]) H0 = some (resO (catT a b), H0) := (r38 n).eq i38 (a, b) hd q0 H0
noncomputable def z38 (n : Nat) : FT := updC (upd s3 38 (r38 n).ora) 200038 fn38

theorem run38 (n : Nat) (a b : List Nd) (hd : ((SmS a ∧ SmS b) ∧ a.length ≤ 1000000 ∧ b.length ≤ 1000000) ∧ b.length < n + 1) : cwp (z38 n) 200038 [] [(AV.list 5 (List.map eNd a)), (AV.list 5 (List.map eNd b))] [] (fun r H => r = resO (catT a b) ∧ H = []) := by
  refine run_fn (fn := fn38) rfl rfl ?_
  obtain ⟨⟨⟨sa, sb⟩, la, lb⟩, hn⟩ := hd
  have wa := sa.wf
  have wb := sb.wf
  by_cases g1 : goodT a = true
  case neg =>
    have g1' : goodT a = false := by simpa using g1
    have hr : catT a b = none := catT_no (.inl g1')
    simp only [fn38_body, c38, D0, ains, clsOf, abin, aint, aun, dnext, rowsOf, loadObj, cellsOf, ofCells, bnd, hmerge, Nat.reduceBEq, Nat.reduceAdd, reduceIte, Nat.reduceEqDiff, Nat.reduceLeDiff, Int.reduceEq, reduceCtorEq, Int.reduceBEq, Int.reduceBNe, Int.reduceLT, Int.reduceNeg, @use_all (z38 n) 29 k29.ora rfl, e29, wa, g1']
    simp only [F1, bodyRes, one, ains, clsOf, abin, aint, aun, dnext, rowsOf, loadObj, cellsOf, ofCells, bnd, hmerge, Nat.reduceBEq, Nat.reduceAdd, reduceIte, Nat.reduceEqDiff, Nat.reduceLeDiff, Int.reduceEq, reduceCtorEq, Int.reduceBEq, Int.reduceBNe, Int.reduceLT, Int.reduceNeg, fn38_res, fn38_keep, fz, fzd, fzd.fzcells, hr, resO, encO, Option.isSome_none]
  by_cases g2 : goodT b = true
  case neg =>
    have g2' : goodT b = false := by simpa using g2
    have hr : catT a b = none := catT_no (.inr g2')
    simp only [fn38_body, c38, D0, ains, clsOf, abin, aint, aun, dnext, rowsOf, loadObj, cellsOf, ofCells, bnd, hmerge, Nat.reduceBEq, Nat.reduceAdd, reduceIte, Nat.reduceEqDiff, Nat.reduceLeDiff, Int.reduceEq, reduceCtorEq, Int.reduceBEq, Int.reduceBNe, Int.reduceLT, Int.reduceNeg, @use_all (z38 n) 29 k29.ora rfl, e29, wa, wb, g1, g2']
    simp only [F1, bodyRes, one, ains, clsOf, abin, aint, aun, dnext, rowsOf, loadObj, cellsOf, ofCells, bnd, hmerge, Nat.reduceBEq, Nat.reduceAdd, reduceIte, Nat.reduceEqDiff, Nat.reduceLeDiff, Int.reduceEq, reduceCtorEq, Int.reduceBEq, Int.reduceBNe, Int.reduceLT, Int.reduceNeg, fn38_res, fn38_keep, fz, fzd, fzd.fzcells, hr, resO, encO, Option.isSome_none]
  obtain ⟨x, hx, rfl⟩ := okS_of ⟨sa, g1⟩
  obtain ⟨y, hy, rfl⟩ := okS_of ⟨sb, g2⟩
  rw [catT_enc hx hy]
  have nx := hx.ne
  have ny := hy.ne
  have lx := hx.len
  have ly := hy.len
  have kx := lastN_enc x
  have ky := lastN_enc y
  by_cases n1 : rk x = 0
  case pos =>
    have hr : catO x y = some never := by cases y <;> simp [catO, cat1, n1]
    simp only [fn38_body, c38, D0, ains, clsOf, abin, aint, aun, dnext, rowsOf, loadObj, cellsOf, ofCells, bnd, hmerge, Nat.reduceBEq, Nat.reduceAdd, reduceIte, Nat.reduceEqDiff, Nat.reduceLeDiff, Int.reduceEq, reduceCtorEq, Int.reduceBEq, Int.reduceBNe, Int.reduceLT, Int.reduceNeg, @use_all (z38 n) 29 k29.ora rfl, e29, @use_all (z38 n) 76 k76.ora rfl, e76, @use_all (z38 n) 34 k34.ora rfl, e34, wa, wb, g1, g2, nx, ny, kx, ky, n1, leafT0]
    simp only [F1, bodyRes, one, ains, clsOf, abin, aint, aun, dnext, rowsOf, loadObj, cellsOf, ofCells, bnd, hmerge, Nat.reduceBEq, Nat.reduceAdd, reduceIte, Nat.reduceEqDiff, Nat.reduceLeDiff, Int.reduceEq, reduceCtorEq, Int.reduceBEq, Int.reduceBNe, Int.reduceLT, Int.reduceNeg, fn38_res, fn38_keep, fz, fzd, fzd.fzcells, hr, resO, encO, Option.isSome_some]
  by_cases n2 : rk y = 0
  case pos =>
    have hr : catO x y = some never := by rw [catO_no (by omega)]; simp [cat1, n2]
    simp only [fn38_body, c38, D0, ains, clsOf, abin, aint, aun, dnext, rowsOf, loadObj, cellsOf, ofCells, bnd, hmerge, Nat.reduceBEq, Nat.reduceAdd, reduceIte, Nat.reduceEqDiff, Nat.reduceLeDiff, Int.reduceEq, reduceCtorEq, Int.reduceBEq, Int.reduceBNe, Int.reduceLT, Int.reduceNeg, @use_all (z38 n) 29 k29.ora rfl, e29, @use_all (z38 n) 76 k76.ora rfl, e76, @use_all (z38 n) 34 k34.ora rfl, e34, wa, wb, g1, g2, nx, ny, kx, ky, n1, n2, leafT0]
    simp only [F1, bodyRes, one, ains, clsOf, abin, aint, aun, dnext, rowsOf, loadObj, cellsOf, ofCells, bnd, hmerge, Nat.reduceBEq, Nat.reduceAdd, reduceIte, Nat.reduceEqDiff, Nat.reduceLeDiff, Int.reduceEq, reduceCtorEq, Int.reduceBEq, Int.reduceBNe, Int.reduceLT, Int.reduceNeg, fn38_res, fn38_keep, fz, fzd, fzd.fzcells, hr, resO, encO, Option.isSome_some]
  by_cases e1 : rk x = 1
  case pos =>
    have hr : catO x y = some y := by cases y <;> simp_all [catO, cat1]
    simp only [fn38_body, c38, D0, ains, clsOf, abin, aint, aun, dnext, rowsOf, loadObj, cellsOf, ofCells, bnd, hmerge, Nat.reduceBEq, Nat.reduceAdd, reduceIte, Nat.reduceEqDiff, Nat.reduceLeDiff, Int.reduceEq, reduceCtorEq, Int.reduceBEq, Int.reduceBNe, Int.reduceLT, Int.reduceNeg, @use_all (z38 n) 29 k29.ora rfl, e29, @use_all (z38 n) 76 k76.ora rfl, e76, @use_all (z38 n) 77 k77.ora rfl, e77, wa, wb, g1, g2, nx, ny, lx, ly, kx, ky, n1, n2, e1]
    simp only [F1, bodyRes, one, ains, clsOf, abin, aint, aun, dnext, rowsOf, loadObj, cellsOf, ofCells, bnd, hmerge, Nat.reduceBEq, Nat.reduceAdd, reduceIte, Nat.reduceEqDiff, Nat.reduceLeDiff, Int.reduceEq, reduceCtorEq, Int.reduceBEq, Int.reduceBNe, Int.reduceLT, Int.reduceNeg, fn38_res, fn38_keep, fz, fzd, fzd.fzcells, hr, resO, encO, Option.isSome_some]
  by_cases e2 : rk y = 1
  case pos =>
    have hr : catO x y = some x := by rw [catO_no (by omega)]; simp [cat1, n1, n2, e1, e2]
    simp only [fn38_body, c38, D0, ains, clsOf, abin, aint, aun, dnext, rowsOf, loadObj, cellsOf, ofCells, bnd, hmerge, Nat.reduceBEq, Nat.reduceAdd, reduceIte, Nat.reduceEqDiff, Nat.reduceLeDiff, Int.reduceEq, reduceCtorEq, Int.reduceBEq, Int.reduceBNe, Int.reduceLT, Int.reduceNeg, @use_all (z38 n) 29 k29.ora rfl, e29, @use_all (z38 n) 76 k76.ora rfl, e76, @use_all (z38 n) 77 k77.ora rfl, e77, wa, wb, g1, g2, nx, ny, lx, ly, kx, ky, n1, n2, e1, e2]
    simp only [F1, bodyRes, one, ains, clsOf, abin, aint, aun, dnext, rowsOf, loadObj, cellsOf, ofCells, bnd, hmerge, Nat.reduceBEq, Nat.reduceAdd, reduceIte, Nat.reduceEqDiff, Nat.reduceLeDiff, Int.reduceEq, reduceCtorEq, Int.reduceBEq, Int.reduceBNe, Int.reduceLT, Int.reduceNeg, fn38_res, fn38_keep, fz, fzd, fzd.fzcells, hr, resO, encO, Option.isSome_some]
  by_cases c2 : rk y = 3
  case neg =>
    have hr : catO x y = joinO 3 x y := by rw [catO_no c2]; simp [cat1, n1, n2, e1, e2]
    obtain ⟨j1, j2⟩ := encO_join (k := 3) (.inl rfl) hx hy
    have hd : (SmS (enc x) ∧ SmS (enc y)) ∧ (enc x).length ≤ 1000000 ∧ (enc y).length ≤ 1000000 := ⟨⟨sa, sb⟩, la, lb⟩
    simp only [fn38_body, c38, D0, ains, clsOf, abin, aint, aun, dnext, rowsOf, loadObj, cellsOf, ofCells, bnd, hmerge, Nat.reduceBEq, Nat.reduceAdd, reduceIte, Nat.reduceEqDiff, Nat.reduceLeDiff, Int.reduceEq, reduceCtorEq, Int.reduceBEq, Int.reduceBNe, Int.reduceLT, Int.reduceNeg, @use_all (z38 n) 29 k29.ora rfl, e29, @use_all (z38 n) 76 k76.ora rfl, e76, @use_all (z38 n) 19 k19.ora rfl, e19, wa, wb, g1, g2, nx, ny, kx, ky, n1, n2, e1, e2, c2, hd, j1, j2]
    simp only [F1, bodyRes, one, ains, clsOf, abin, aint, aun, dnext, rowsOf, loadObj, cellsOf, ofCells, bnd, hmerge, Nat.reduceBEq, Nat.reduceAdd, reduceIte, Nat.reduceEqDiff, Nat.reduceLeDiff, Int.reduceEq, reduceCtorEq, Int.reduceBEq, Int.reduceBNe, Int.reduceLT, Int.reduceNeg, fn38_res, fn38_keep, fz, fzd, fzd.fzcells, hr, resO]
  obtain ⟨u, v, rfl⟩ := rk_cat hy.1 c2
  obtain ⟨h1, h2⟩ := hy.c
  obtain ⟨p1, p2, p3⟩ := hy.partsC
  have hl := hy.2
  rw [enc_len] at hn
  simp only [sz] at hn hl
  have hr : catO x (.cat u v) = (catO x u).bind fun c => catO c v := by simp [catO, n1, e1]
  have du : ((SmS (enc x) ∧ SmS (enc u)) ∧ (enc x).length ≤ 1000000 ∧ (enc u).length ≤ 1000000) ∧ (enc u).length < n := ⟨⟨⟨sa, h1.sm⟩, la, by have := h1.len; omega⟩, by rw [enc_len]; omega⟩
  have eu := catT_enc hx h1
  cases ec : catO x u with
  | none =>
    simp only [fn38_body, c38, D0, ains, clsOf, abin, aint, aun, dnext, rowsOf, loadObj, cellsOf, ofCells, bnd, hmerge, Nat.reduceBEq, Nat.reduceAdd, reduceIte, Nat.reduceEqDiff, Nat.reduceLeDiff, Int.reduceEq, reduceCtorEq, Int.reduceBEq, Int.reduceBNe, Int.reduceLT, Int.reduceNeg, @use_all (z38 n) 29 k29.ora rfl, e29, @use_all (z38 n) 76 k76.ora rfl, e76, @use_all (z38 n) 23 k23.ora rfl, e23, @use_all (z38 n) 38 (r38 n).ora rfl, er38, wa, wb, sb, g1, g2, nx, ny, kx, ky, n1, n2, e1, e2, c2, p1, p2, p3, du, eu, ec, resO, encO, Option.isSome_none]
    simp only [F1, bodyRes, one, ains, clsOf, abin, aint, aun, dnext, rowsOf, loadObj, cellsOf, ofCells, bnd, hmerge, Nat.reduceBEq, Nat.reduceAdd, reduceIte, Nat.reduceEqDiff, Nat.reduceLeDiff, Int.reduceEq, reduceCtorEq, Int.reduceBEq, Int.reduceBNe, Int.reduceLT, Int.reduceNeg, fn38_res, fn38_keep, fz, fzd, fzd.fzcells, hr, ec, Option.bind_none, resO, encO, Option.isSome_none]
  | some c =>
    have hc := ok_catO hx h1 ec
    have ev := catT_enc hc h2
    have dv : ((SmS (enc c) ∧ SmS (enc v)) ∧ (enc c).length ≤ 1000000 ∧ (enc v).length ≤ 1000000) ∧ (enc v).length < n := ⟨⟨⟨hc.sm, h2.sm⟩, by have := hc.len; omega, by have := h2.len; omega⟩, by rw [enc_len]; omega⟩
    simp only [fn38_body, c38, D0, ains, clsOf, abin, aint, aun, dnext, rowsOf, loadObj, cellsOf, ofCells, bnd, hmerge, Nat.reduceBEq, Nat.reduceAdd, reduceIte, Nat.reduceEqDiff, Nat.reduceLeDiff, Int.reduceEq, reduceCtorEq, Int.reduceBEq, Int.reduceBNe, Int.reduceLT, Int.reduceNeg, @use_all (z38 n) 29 k29.ora rfl, e29, @use_all (z38 n) 76 k76.ora rfl, e76, @use_all (z38 n) 23 k23.ora rfl, e23, @use_all (z38 n) 38 (r38 n).ora rfl, er38, wa, wb, sb, g1, g2, nx, ny, kx, ky, n1, n2, e1, e2, c2, p1, p2, p3, du, dv, eu, ev, ec, resO, encO, Option.isSome_some]
    simp only [F1, bodyRes, one, ains, clsOf, abin, aint, aun, dnext, rowsOf, loadObj, cellsOf, ofCells, bnd, hmerge, Nat.reduceBEq, Nat.reduceAdd, reduceIte, Nat.reduceEqDiff, Nat.reduceLeDiff, Int.reduceEq, reduceCtorEq, Int.reduceBEq, Int.reduceBNe, Int.reduceLT, Int.reduceNeg, fn38_res, fn38_keep, fz, fzd, fzd.fzcells, hr, ec, Option.bind_some, resO]
theorem ook38 : OraOK Try.prog (38 % 100000) k38.ora := ora_rec (fun x => x.2.length) (fun a b _ _ h => i38 a b h) fun n h => (r38 (n + 1)).ok (f := 200038) orders (updC_ok (upd_ok2 (f := 38) s3_ok h) ok38) (fun x hd => by simp [r38, k38, PU]) (fun x hd => by simp [r38, k38, PU, pure_resO]) (fun x hd => run38 n x.1 x.2 hd)

noncomputable def s4 : FT := upd (s3) 38 k38.ora
theorem s4_ok : FTOK Try.prog s4 := upd_ok2 (f := 38) (s3_ok) ook38

end Go.Proofs.Abs
