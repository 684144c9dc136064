/- A part of a proof: the text that states the row tells what is proved. No condition is laid on anything. -/
import Derived.Test.YtgcncpedpjjjeaaAbsM5
import Derived.Test.YtgcncpedpjjjeaaAbsM4
set_option linter.all false
set_option linter.constructorNameAsVariable false
set_option linter.defProp false
set_option linter.unusedVariables false
set_option linter.unusedSimpArgs false
set_option maxRecDepth 100000
set_option maxHeartbeats 4000000
namespace Go.Proofs.Abs
open Go
/-! 38: smart.Cat. -/
theorem leafT0 : leafT 0 = enc never := rfl
theorem leafT1 : leafT 1 = enc empty := rfl
noncomputable def k38 : Kon (List Nd × List Nd) := ⟨fun x => (SmS x.1 ∧ SmS x.2) ∧ x.1.length ≤ 1000000 ∧ x.2.length ≤ 1000000, fun x => [(AV.list 5 (List.map eNd x.1)), (AV.list 5 (List.map eNd x.2))], fun x => resO (catT x.1 x.2)⟩
theorem i38 : ∀ a b, k38.enc a = k38.enc b → a = b := tree2Inj
theorem e38 (a : List Nd) (b : List Nd) (hd : (SmS a ∧ SmS b) ∧ a.length ≤ 1000000 ∧ b.length ≤ 1000000) (q0 : Id) (H0 : Heap) : k38.ora q0 ([(AV.list 5 (List.map eNd a)), (AV.list 5 (List.map eNd b))]) H0 = some (resO (catT a b), H0) := k38.eq i38 (a, b) hd q0 H0
noncomputable def r38 (n : Nat) : Kon (List Nd × List Nd) := ⟨fun x => k38.dom x ∧ (fun x => x.2.length) x < n, k38.enc, k38.out⟩
theorem er38 {n : Nat} (a : List Nd) (b : List Nd) (hd : ((SmS a ∧ SmS b) ∧ a.length ≤ 1000000 ∧ b.length ≤ 1000000) ∧ b.length < n) (q0 : Id) (H0 : Heap) : (r38 n).ora q0 ([(AV.list 5 (List.map eNd a)), (AV.list 5 (List.map eNd b))]) H0 = some (resO (catT a b), H0) := (r38 n).eq i38 (a, b) hd q0 H0
noncomputable def z38 (n : Nat) : FT := updC (upd s3 38 (r38 n).ora) 200038 fn38

theorem run38 (n : Nat) (a b : List Nd) (hd : ((SmS a ∧ SmS b) ∧ a.length ≤ 1000000 ∧ b.length ≤ 1000000) ∧ b.length < n + 1) : cwp (z38 n) 200038 [] [(AV.list 5 (List.map eNd a)), (AV.list 5 (List.map eNd b))] [] (fun r H => r = resO (catT a b) ∧ H = []) := by
  refine run_fn (fn := fn38) rfl rfl ?_
  obtain ⟨⟨⟨sa, sb⟩, la, lb⟩, hn⟩ := hd
  have wa := sa.wf
  have wb := sb.wf
  by_cases g1 : goodT a = true
  case neg =>
    have g1' : goodT a = false := by simpa using g1
    have hr : catT a b = none := catT_no (.inl g1')
    simp only [fn38_body, c38, D0, ains, clsOf, abin, aint, aun, dnext, rowsOf, loadObj, cellsOf, ofCells, bnd, hmerge, Nat.reduceBEq, Nat.reduceAdd, reduceIte, Nat.reduceEqDiff, Nat.reduceLeDiff, Int.reduceEq, reduceCtorEq, Int.reduceBEq, Int.reduceBNe, Int.reduceLT, Int.reduceNeg, @use_all (z38 n) 29 k29.ora rfl, e29, wa, g1']
    simp only [F1, bodyRes, one, ains, clsOf, abin, aint, aun, dnext, rowsOf, loadObj, cellsOf, ofCells, bnd, hmerge, Nat.reduceBEq, Nat.reduceAdd, reduceIte, Nat.reduceEqDiff, Nat.reduceLeDiff, Int.reduceEq, reduceCtorEq, Int.reduceBEq, Int.reduceBNe, Int.reduceLT, Int.reduceNeg, fn38_res, fn38_keep, fz, fzd, fzd.fzcells, hr, resO, encO, Option.isSome_none]
  by_cases g2 : goodT b = true
  case neg =>
    have g2' : goodT b = false := by simpa using g2
    have hr : catT a b = none := catT_no (.inr g2')
    simp only [fn38_body, c38, D0, ains, clsOf, abin, aint, aun, dnext, rowsOf, loadObj, cellsOf, ofCells, bnd, hmerge, Nat.reduceBEq, Nat.reduceAdd, reduceIte, Nat.reduceEqDiff, Nat.reduceLeDiff, Int.reduceEq, reduceCtorEq, Int.reduceBEq, Int.reduceBNe, Int.reduceLT, Int.reduceNeg, @use_all (z38 n) 29 k29.ora rfl, e29, wa, wb, g1, g2']
    simp only [F1, bodyRes, one, ains, clsOf, abin, aint, aun, dnext, rowsOf, loadObj, cellsOf, ofCells, bnd, hmerge, Nat.reduceBEq, Nat.reduceAdd, reduceIte, Nat.reduceEqDiff, Nat.reduceLeDiff, Int.reduceEq, reduceCtorEq, Int.reduceBEq, Int.reduceBNe, Int.reduceLT, Int.reduceNeg, fn38_res, fn38_keep, fz, fzd, fzd.fzcells, hr, resO, encO, Option.isSome_none]
  obtain ⟨x, hx, rfl⟩ := okS_of ⟨sa, g1⟩
  obtain ⟨y, hy, rfl⟩ := okS_of ⟨sb, g2⟩
  rw [catT_enc hx hy]
  have nx := hx.ne
  have ny := hy.ne
  have lx := hx.len
  have ly := hy.len
  have kx := lastN_enc x
  have ky := lastN_enc y
  by_cases n1 : rk x = 0
  case pos =>
    have hr : catO x y = some never := by cases y <;> simp [catO, cat1, n1]
    simp only [fn38_body, c38, D0, ains, clsOf, abin, aint, aun, dnext, rowsOf, loadObj, cellsOf, ofCells, bnd, hmerge, Nat.reduceBEq, Nat.reduceAdd, reduceIte, Nat.reduceEqDiff, Nat.reduceLeDiff, Int.reduceEq, reduceCtorEq, Int.reduceBEq, Int.reduceBNe, Int.reduceLT, Int.reduceNeg, @use_all (z38 n) 29 k29.ora rfl, e29, @use_all (z38 n) 76 k76.ora rfl, e76, @use_all (z38 n) 34 k34.ora rfl, e34, wa, wb, g1, g2, nx, ny, kx, ky, n1, leafT0]
    simp only [F1, bodyRes, one, ains, clsOf, abin, aint, aun, dnext, rowsOf, loadObj, cellsOf, ofCells, bnd, hmerge, Nat.reduceBEq, Nat.reduceAdd, reduceIte, Nat.reduceEqDiff, Nat.reduceLeDiff, Int.reduceEq, reduceCtorEq, Int.reduceBEq, Int.reduceBNe, Int.reduceLT, Int.reduceNeg, fn38_res, fn38_keep, fz, fzd, fzd.fzcells, hr, resO, encO, Option.isSome_some]
  by_cases n2 : rk y = 0
  case pos =>
    have hr : catO x y = some never := by rw [catO_no (by omega)]; simp [cat1, n2]
    simp only [fn38_body, c38, D0, ains, clsOf, abin, aint, aun, dnext, rowsOf, loadObj, cellsOf, ofCells, bnd, hmerge, Nat.reduceBEq, Nat.reduceAdd, reduceIte, Nat.reduceEqDiff, Nat.reduceLeDiff, Int.reduceEq, reduceCtorEq, Int.reduceBEq, Int.reduceBNe, Int.reduceLT, Int.reduceNeg, @use_all (z38 n) 29 k29.ora rfl, e29, @use_all (z38 n) 76 k76.ora rfl, e76, @use_all (z38 n) 34 k34.ora rfl, e34, wa, wb, g1, g2, nx, ny, kx, ky, n1, n2, leafT0]
    simp only [F1, bodyRes, one, ains, clsOf, abin, aint, aun, dnext, rowsOf, loadObj, cellsOf, ofCells, bnd, hmerge, Nat.reduceBEq, Nat.reduceAdd, reduceIte, Nat.reduceEqDiff, Nat.reduceLeDiff, Int.reduceEq, reduceCtorEq, Int.reduceBEq, Int.reduceBNe, Int.reduceLT, Int.reduceNeg, fn38_res, fn38_keep, fz, fzd, fzd.fzcells, hr, resO, encO, Option.isSome_some]
  by_cases e1 : rk x = 1
  case pos =>
    have hr : catO x y = some y := by cases y <;> simp_all [catO, cat1]
    simp only [fn38_body, c38, D0, ains, clsOf, abin, aint, aun, dnext, rowsOf, loadObj, cellsOf, ofCells, bnd, hmerge, Nat.reduceBEq, Nat.reduceAdd, reduceIte, Nat.reduceEqDiff, Nat.reduceLeDiff, Int.reduceEq, reduceCtorEq, Int.reduceBEq, Int.reduceBNe, Int.reduceLT, Int.reduceNeg, @use_all (z38 n) 29 k29.ora rfl, e29, @use_all (z38 n) 76 k76.ora rfl, e76, @use_all (z38 n) 77 k77.ora rfl, e77, wa, wb, g1, g2, nx, ny, lx, ly, kx, ky, n1, n2, e1]
    simp only [F1, bodyRes, one, ains, clsOf, abin, aint, aun, dnext, rowsOf, loadObj, cellsOf, ofCells, bnd, hmerge, Nat.reduceBEq, Nat.reduceAdd, reduceIte, Nat.reduceEqDiff, Nat.reduceLeDiff, Int.reduceEq, reduceCtorEq, Int.reduceBEq, Int.reduceBNe, Int.reduceLT, Int.reduceNeg, fn38_res, fn38_keep, fz, fzd, fzd.fzcells, hr, resO, encO, Option.isSome_some]
  by_cases e2 : rk y = 1
  case pos =>
    have hr : catO x y = some x := by rw [catO_no (by omega)]; simp [cat1, n1, n2, e1, e2]
    simp only [fn38_body, c38, D0, ains, clsOf, abin, aint, aun, dnext, rowsOf, loadObj, cellsOf, ofCells, bnd, hmerge, Nat.reduceBEq, Nat.reduceAdd, reduceIte, Nat.reduceEqDiff, Nat.reduceLeDiff, Int.reduceEq, reduceCtorEq, Int.reduceBEq, Int.reduceBNe, Int.reduceLT, Int.reduceNeg, @use_all (z38 n) 29 k29.ora rfl, e29, @use_all (z38 n) 76 k76.ora rfl, e76, @use_all (z38 n) 77 k77.ora rfl, e77, wa, wb, g1, g2, nx, ny, lx, ly, kx, ky, n1, n2, e1, e2]
    simp only [F1, bodyRes, one, ains, clsOf, abin, aint, aun, dnext, rowsOf, loadObj, cellsOf, ofCells, bnd, hmerge, Nat.reduceBEq, Nat.reduceAdd, reduceIte, Nat.reduceEqDiff, Nat.reduceLeDiff, Int.reduceEq, reduceCtorEq, Int.reduceBEq, Int.reduceBNe, Int.reduceLT, Int.reduceNeg, fn38_res, fn38_keep, fz, fzd, fzd.fzcells, hr, resO, encO, Option.isSome_some]
  by_cases c2 : rk y = 3
  case neg =>
    have hr : catO x y = joinO 3 x y := by rw [catO_no c2]; simp [cat1, n1, n2, e1, e2]
    obtain ⟨j1, j2⟩ := encO_join (k := 3) (.inl rfl) hx hy
    have hd : (SmS (enc x) ∧ SmS (enc y)) ∧ (enc x).length ≤ 1000000 ∧ (enc y).length ≤ 1000000 := ⟨⟨sa, sb⟩, la, lb⟩
    simp only [fn38_body, c38, D0, ains, clsOf, abin, aint, aun, dnext, rowsOf, loadObj, cellsOf, ofCells, bnd, hmerge, Nat.reduceBEq, Nat.reduceAdd, reduceIte, Nat.reduceEqDiff, Nat.reduceLeDiff, Int.reduceEq, reduceCtorEq, Int.reduceBEq, Int.reduceBNe, Int.reduceLT, Int.reduceNeg, @use_all (z38 n) 29 k29.ora rfl, e29, @use_all (z38 n) 76 k76.ora rfl, e76, @use_all (z38 n) 19 k19.ora rfl, e19, wa, wb, g1, g2, nx, ny, kx, ky, n1, n2, e1, e2, c2, hd, j1, j2]
    simp only [F1, bodyRes, one, ains, clsOf, abin, aint, aun, dnext, rowsOf, loadObj, cellsOf, ofCells, bnd, hmerge, Nat.reduceBEq, Nat.reduceAdd, reduceIte, Nat.reduceEqDiff, Nat.reduceLeDiff, Int.reduceEq, reduceCtorEq, Int.reduceBEq, Int.reduceBNe, Int.reduceLT, Int.reduceNeg, fn38_res, fn38_keep, fz, fzd, fzd.fzcells, hr, resO]
  obtain ⟨u, v, rfl⟩ := rk_cat hy.1 c2
  obtain ⟨h1, h2⟩ := hy.c
  obtain ⟨p1, p2, p3⟩ := hy.partsC
  have hl := hy.2
  rw [enc_len] at hn
  simp only [sz] at hn hl
  have hr : catO x (.cat u v) = (catO x u).bind fun c => catO c v := by simp [catO, n1, e1]
  have du : ((SmS (enc x) ∧ SmS (enc u)) ∧ (enc x).length ≤ 1000000 ∧ (enc u).length ≤ 1000000) ∧ (enc u).length < n := ⟨⟨⟨sa, h1.sm⟩, la, by have := h1.len; omega⟩, by rw [enc_len]; omega⟩
  have eu := catT_enc hx h1
  cases ec : catO x u with
  | none =>
    simp only [fn38_body, c38, D0, ains, clsOf, abin, aint, aun, dnext, rowsOf, loadObj, cellsOf, ofCells, bnd, hmerge, Nat.reduceBEq, Nat.reduceAdd, reduceIte, Nat.reduceEqDiff, Nat.reduceLeDiff, Int.reduceEq, reduceCtorEq, Int.reduceBEq, Int.reduceBNe, Int.reduceLT, Int.reduceNeg, @use_all (z38 n) 29 k29.ora rfl, e29, @use_all (z38 n) 76 k76.ora rfl, e76, @use_all (z38 n) 23 k23.ora rfl, e23, @use_all (z38 n) 38 (r38 n).ora rfl, er38, wa, wb, sb, g1, g2, nx, ny, kx, ky, n1, n2, e1, e2, c2, p1, p2, p3, du, eu, ec, resO, encO, Option.isSome_none]
    simp only [F1, bodyRes, one, ains, clsOf, abin, aint, aun, dnext, rowsOf, loadObj, cellsOf, ofCells, bnd, hmerge, Nat.reduceBEq, Nat.reduceAdd, reduceIte, Nat.reduceEqDiff, Nat.reduceLeDiff, Int.reduceEq, reduceCtorEq, Int.reduceBEq, Int.reduceBNe, Int.reduceLT, Int.reduceNeg, fn38_res, fn38_keep, fz, fzd, fzd.fzcells, hr, ec, Option.bind_none, resO, encO, Option.isSome_none]
  | some c =>
    have hc := ok_catO hx h1 ec
    have ev := catT_enc hc h2
    have dv : ((SmS (enc c) ∧ SmS (enc v)) ∧ (enc c).length ≤ 1000000 ∧ (enc v).length ≤ 1000000) ∧ (enc v).length < n := ⟨⟨⟨hc.sm, h2.sm⟩, by have := hc.len; omega, by have := h2.len; omega⟩, by rw [enc_len]; omega⟩
    simp only [fn38_body, c38, D0, ains, clsOf, abin, aint, aun, dnext, rowsOf, loadObj, cellsOf, ofCells, bnd, hmerge, Nat.reduceBEq, Nat.reduceAdd, reduceIte, Nat.reduceEqDiff, Nat.reduceLeDiff, Int.reduceEq, reduceCtorEq, Int.reduceBEq, Int.reduceBNe, Int.reduceLT, Int.reduceNeg, @use_all (z38 n) 29 k29.ora rfl, e29, @use_all (z38 n) 76 k76.ora rfl, e76, @use_all (z38 n) 23 k23.ora rfl, e23, @use_all (z38 n) 38 (r38 n).ora rfl, er38, wa, wb, sb, g1, g2, nx, ny, kx, ky, n1, n2, e1, e2, c2, p1, p2, p3, du, dv, eu, ev, ec, resO, encO, Option.isSome_some]
    simp only [F1, bodyRes, one, ains, clsOf, abin, aint, aun, dnext, rowsOf, loadObj, cellsOf, ofCells, bnd, hmerge, Nat.reduceBEq, Nat.reduceAdd, reduceIte, Nat.reduceEqDiff, Nat.reduceLeDiff, Int.reduceEq, reduceCtorEq, Int.reduceBEq, Int.reduceBNe, Int.reduceLT, Int.reduceNeg, fn38_res, fn38_keep, fz, fzd, fzd.fzcells, hr, ec, Option.bind_some, resO]
theorem ook38 : OraOK Try.prog (38 % 100000) k38.ora := ora_rec (fun x => x.2.length) (fun a b _ _ h => i38 a b h) fun n h => (r38 (n + 1)).ok (f := 200038) orders (updC_ok (upd_ok2 (f := 38) s3_ok h) ok38) (fun x hd => by simp [r38, k38, PU]) (fun x hd => by simp [r38, k38, PU, pure_resO]) (fun x hd => run38 n x.1 x.2 hd)

noncomputable def s4 : FT := upd (s3) 38 k38.ora
theorem s4_ok : FTOK Try.prog s4 := upd_ok2 (f := 38) (s3_ok) ook38

end Go.Proofs.Abs
