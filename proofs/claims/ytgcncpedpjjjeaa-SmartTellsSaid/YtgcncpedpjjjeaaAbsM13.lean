/- A part of a proof: the text that states the row tells what is proved. No condition is laid on anything. -/
import Derived.Test.YtgcncpedpjjjeaaAbsM12
set_option linter.all false
set_option linter.constructorNameAsVariable false
set_option linter.defProp false
set_option linter.unusedVariables false
set_option linter.unusedSimpArgs false
set_option maxRecDepth 100000
set_option maxHeartbeats 4000000
namespace Go.Proofs.Abs
open Go
/-! 42: caesuraref12.Cat. -/
theorem beq_no {a b : Int} (h : ¬ a = b) : (a == b) = false := by simpa using h
theorem bne_yes {a b : Int} (h : ¬ a = b) : (a != b) = true := by simpa using h
noncomputable def k42 : Kon (List Nd × List Nd) := ⟨fun x => (SmS x.1 ∧ SmS x.2) ∧ x.1.length ≤ 1000000 ∧ x.2.length ≤ 1000000, fun x => [(AV.list 5 (List.map eNd x.1)), (AV.list 5 (List.map eNd x.2))], fun x => (AV.list 5 (List.map eNd (encO (catT x.1 x.2))))⟩
theorem i42 : ∀ a b, k42.enc a = k42.enc b → a = b := tree2Inj
theorem e42 (a : List Nd) (b : List Nd) (hd : (SmS a ∧ SmS b) ∧ a.length ≤ 1000000 ∧ b.length ≤ 1000000) (q0 : Id) (H0 : Heap) : k42.ora q0 ([(AV.list 5 (List.map eNd a)), (AV.list 5 (List.map eNd b))]) H0 = some ((AV.list 5 (List.map eNd (encO (catT a b)))), H0) := k42.eq i42 (a, b) hd q0 H0
noncomputable def r42 (n : Nat) : Kon (List Nd × List Nd) := ⟨fun x => k42.dom x ∧ (fun x => x.2.length) x < n, k42.enc, k42.out⟩
theorem er42 {n : Nat} (a : List Nd) (b : List Nd) (hd : ((SmS a ∧ SmS b) ∧ a.length ≤ 1000000 ∧ b.length ≤ 1000000) ∧ (b.length) < n) (q0 : Id) (H0 : Heap) : (r42 n).ora q0 ([(AV.list 5 (List.map eNd a)), (AV.list 5 (List.map eNd b))]) H0 = some ((AV.list 5 (List.map eNd (encO (catT a b)))), H0) := (r42 n).eq i42 (a, b) hd q0 H0
noncomputable def z42 (n : Nat) : FT := updC (upd q1 42 (r42 n).ora) 200042 fn42

theorem run42 (n : Nat) (a b : List Nd) (hd : ((SmS a ∧ SmS b) ∧ a.length ≤ 1000000 ∧ b.length ≤ 1000000) ∧ b.length < n + 1) : cwp (z42 n) 200042 [] [(AV.list 5 (List.map eNd a)), (AV.list 5 (List.map eNd b))] [] (fun r H => r = (AV.list 5 (List.map eNd (encO (catT a b)))) ∧ H = []) := by
  refine run_fn (fn := fn42) rfl rfl ?_
  obtain ⟨⟨⟨sa, sb⟩, la, lb⟩, hn⟩ := hd
  have wa := sa.wf
  have wb := sb.wf
  by_cases g1 : goodT a = true
  case neg =>
    have g1' : goodT a = false := by simpa using g1
    have hr : catT a b = none := catT_no (.inl g1')
    simp only [fn42_body, c42, D0, ains, clsOf, abin, aint, aun, dnext, rowsOf, loadObj, cellsOf, ofCells, bnd, hmerge, Nat.reduceBEq, Nat.reduceAdd, reduceIte, Nat.reduceEqDiff, Nat.reduceLeDiff, Int.reduceEq, reduceCtorEq, Int.reduceBEq, Int.reduceBNe, Int.reduceLT, Int.reduceNeg, @use_all (z42 n) 30 k30.ora rfl, e30, wa, g1']
    simp only [F1, bodyRes, one, ains, clsOf, abin, aint, aun, dnext, rowsOf, loadObj, cellsOf, ofCells, bnd, hmerge, Nat.reduceBEq, Nat.reduceAdd, reduceIte, Nat.reduceEqDiff, Nat.reduceLeDiff, Int.reduceEq, reduceCtorEq, Int.reduceBEq, Int.reduceBNe, Int.reduceLT, Int.reduceNeg, fn42_res, fn42_keep, fz, fzd, fzd.fzcells, hr, encO]
  by_cases g2 : goodT b = true
  case neg =>
    have g2' : goodT b = false := by simpa using g2
    have hr : catT a b = none := catT_no (.inr g2')
    simp only [fn42_body, c42, D0, ains, clsOf, abin, aint, aun, dnext, rowsOf, loadObj, cellsOf, ofCells, bnd, hmerge, Nat.reduceBEq, Nat.reduceAdd, reduceIte, Nat.reduceEqDiff, Nat.reduceLeDiff, Int.reduceEq, reduceCtorEq, Int.reduceBEq, Int.reduceBNe, Int.reduceLT, Int.reduceNeg, @use_all (z42 n) 30 k30.ora rfl, e30, wa, wb, g1, g2']
    simp only [F1, bodyRes, one, ains, clsOf, abin, aint, aun, dnext, rowsOf, loadObj, cellsOf, ofCells, bnd, hmerge, Nat.reduceBEq, Nat.reduceAdd, reduceIte, Nat.reduceEqDiff, Nat.reduceLeDiff, Int.reduceEq, reduceCtorEq, Int.reduceBEq, Int.reduceBNe, Int.reduceLT, Int.reduceNeg, fn42_res, fn42_keep, fz, fzd, fzd.fzcells, hr, encO]
  obtain ⟨x, hx, rfl⟩ := okS_of ⟨sa, g1⟩
  obtain ⟨y, hy, rfl⟩ := okS_of ⟨sb, g2⟩
  rw [catT_enc hx hy]
  have nx := hx.ne
  have ny := hy.ne
  have kx := lastN_enc x
  have ky := lastN_enc y
  by_cases n1 : rk x = 0
  case pos =>
    have hr : catO x y = some never := by cases y <;> simp [catO, cat1, n1]
    simp only [fn42_body, c42, D0, ains, clsOf, abin, aint, aun, dnext, rowsOf, loadObj, cellsOf, ofCells, bnd, hmerge, Nat.reduceBEq, Nat.reduceAdd, reduceIte, Nat.reduceEqDiff, Nat.reduceLeDiff, Int.reduceEq, reduceCtorEq, Int.reduceBEq, Int.reduceBNe, Int.reduceLT, Int.reduceNeg, @use_all (z42 n) 30 k30.ora rfl, e30, @use_all (z42 n) 81 k81.ora rfl, e81, @use_all (z42 n) 35 k35.ora rfl, e35, wa, wb, g1, g2, nx, ny, kx, ky, n1, leafT0]
    simp only [F1, bodyRes, one, ains, clsOf, abin, aint, aun, dnext, rowsOf, loadObj, cellsOf, ofCells, bnd, hmerge, Nat.reduceBEq, Nat.reduceAdd, reduceIte, Nat.reduceEqDiff, Nat.reduceLeDiff, Int.reduceEq, reduceCtorEq, Int.reduceBEq, Int.reduceBNe, Int.reduceLT, Int.reduceNeg, fn42_res, fn42_keep, fz, fzd, fzd.fzcells, hr, encO]
  have m1 := beq_no n1
  by_cases n2 : rk y = 0
  case pos =>
    have hr : catO x y = some never := by rw [catO_no (by omega)]; simp [cat1, n2]
    simp only [fn42_body, c42, D0, ains, clsOf, abin, aint, aun, dnext, rowsOf, loadObj, cellsOf, ofCells, bnd, hmerge, Nat.reduceBEq, Nat.reduceAdd, reduceIte, Nat.reduceEqDiff, Nat.reduceLeDiff, Int.reduceEq, reduceCtorEq, Int.reduceBEq, Int.reduceBNe, Int.reduceLT, Int.reduceNeg, @use_all (z42 n) 30 k30.ora rfl, e30, @use_all (z42 n) 81 k81.ora rfl, e81, @use_all (z42 n) 35 k35.ora rfl, e35, wa, wb, g1, g2, nx, ny, kx, ky, m1, n2, leafT0]
    simp only [F1, bodyRes, one, ains, clsOf, abin, aint, aun, dnext, rowsOf, loadObj, cellsOf, ofCells, bnd, hmerge, Nat.reduceBEq, Nat.reduceAdd, reduceIte, Nat.reduceEqDiff, Nat.reduceLeDiff, Int.reduceEq, reduceCtorEq, Int.reduceBEq, Int.reduceBNe, Int.reduceLT, Int.reduceNeg, fn42_res, fn42_keep, fz, fzd, fzd.fzcells, hr, encO]
  have m2 := beq_no n2
  by_cases e1 : rk x = 1
  case pos =>
    have hr : catO x y = some y := by cases y <;> simp_all [catO, cat1]
    simp only [fn42_body, c42, D0, ains, clsOf, abin, aint, aun, dnext, rowsOf, loadObj, cellsOf, ofCells, bnd, hmerge, Nat.reduceBEq, Nat.reduceAdd, reduceIte, Nat.reduceEqDiff, Nat.reduceLeDiff, Int.reduceEq, reduceCtorEq, Int.reduceBEq, Int.reduceBNe, Int.reduceLT, Int.reduceNeg, @use_all (z42 n) 30 k30.ora rfl, e30, @use_all (z42 n) 81 k81.ora rfl, e81, wa, wb, g1, g2, nx, ny, kx, ky, m1, m2, e1]
    simp only [F1, bodyRes, one, ains, clsOf, abin, aint, aun, dnext, rowsOf, loadObj, cellsOf, ofCells, bnd, hmerge, Nat.reduceBEq, Nat.reduceAdd, reduceIte, Nat.reduceEqDiff, Nat.reduceLeDiff, Int.reduceEq, reduceCtorEq, Int.reduceBEq, Int.reduceBNe, Int.reduceLT, Int.reduceNeg, fn42_res, fn42_keep, fz, fzd, fzd.fzcells, hr, encO]
  have m3 := beq_no e1
  by_cases e2 : rk y = 1
  case pos =>
    have hr : catO x y = some x := by rw [catO_no (by omega)]; simp [cat1, n1, n2, e1, e2]
    simp only [fn42_body, c42, D0, ains, clsOf, abin, aint, aun, dnext, rowsOf, loadObj, cellsOf, ofCells, bnd, hmerge, Nat.reduceBEq, Nat.reduceAdd, reduceIte, Nat.reduceEqDiff, Nat.reduceLeDiff, Int.reduceEq, reduceCtorEq, Int.reduceBEq, Int.reduceBNe, Int.reduceLT, Int.reduceNeg, @use_all (z42 n) 30 k30.ora rfl, e30, @use_all (z42 n) 81 k81.ora rfl, e81, wa, wb, g1, g2, nx, ny, kx, ky, m1, m2, m3, e2]
    simp only [F1, bodyRes, one, ains, clsOf, abin, aint, aun, dnext, rowsOf, loadObj, cellsOf, ofCells, bnd, hmerge, Nat.reduceBEq, Nat.reduceAdd, reduceIte, Nat.reduceEqDiff, Nat.reduceLeDiff, Int.reduceEq, reduceCtorEq, Int.reduceBEq, Int.reduceBNe, Int.reduceLT, Int.reduceNeg, fn42_res, fn42_keep, fz, fzd, fzd.fzcells, hr, encO]
  have m4 := beq_no e2
  by_cases c2 : rk y = 3
  case neg =>
    have hr : catO x y = joinO 3 x y := by rw [catO_no c2]; simp [cat1, n1, n2, e1, e2]
    have m5 := beq_no c2
    obtain ⟨j1, j2⟩ := encO_join (k := 3) (.inl rfl) hx hy
    have hd : (SmS (enc x) ∧ SmS (enc y)) ∧ (enc x).length ≤ 1000000 ∧ (enc y).length ≤ 1000000 := ⟨⟨sa, sb⟩, la, lb⟩
    simp only [fn42_body, c42, D0, ains, clsOf, abin, aint, aun, dnext, rowsOf, loadObj, cellsOf, ofCells, bnd, hmerge, Nat.reduceBEq, Nat.reduceAdd, reduceIte, Nat.reduceEqDiff, Nat.reduceLeDiff, Int.reduceEq, reduceCtorEq, Int.reduceBEq, Int.reduceBNe, Int.reduceLT, Int.reduceNeg, @use_all (z42 n) 30 k30.ora rfl, e30, @use_all (z42 n) 81 k81.ora rfl, e81, @use_all (z42 n) 25 k25.ora rfl, e25, wa, wb, g1, g2, nx, ny, kx, ky, m1, m2, m3, m4, m5, hd, j1]
    simp only [F1, bodyRes, one, ains, clsOf, abin, aint, aun, dnext, rowsOf, loadObj, cellsOf, ofCells, bnd, hmerge, Nat.reduceBEq, Nat.reduceAdd, reduceIte, Nat.reduceEqDiff, Nat.reduceLeDiff, Int.reduceEq, reduceCtorEq, Int.reduceBEq, Int.reduceBNe, Int.reduceLT, Int.reduceNeg, fn42_res, fn42_keep, fz, fzd, fzd.fzcells, hr]
  obtain ⟨u, v, rfl⟩ := rk_cat hy.1 c2
  obtain ⟨h1, h2⟩ := hy.c
  obtain ⟨p1, p2, p3⟩ := hy.partsC
  have hl := hy.2
  rw [enc_len] at hn
  simp only [sz] at hn hl
  have hr : catO x (.cat u v) = (catO x u).bind fun c => catO c v := by simp [catO, n1, e1]
  have du : ((SmS (enc x) ∧ SmS (enc u)) ∧ (enc x).length ≤ 1000000 ∧ (enc u).length ≤ 1000000) ∧ (enc u).length < n := ⟨⟨⟨sa, h1.sm⟩, la, by have := h1.len; omega⟩, by rw [enc_len]; omega⟩
  have eu := catT_enc hx h1
  cases ec : catO x u with
  | none =>
    have hz0 : (((0 : Nat) : Int) == 0) = true := rfl
    simp only [fn42_body, c42, D0, ains, clsOf, abin, aint, aun, dnext, rowsOf, loadObj, cellsOf, ofCells, bnd, hmerge, Nat.reduceBEq, Nat.reduceAdd, reduceIte, Nat.reduceEqDiff, Nat.reduceLeDiff, Int.reduceEq, reduceCtorEq, Int.reduceBEq, Int.reduceBNe, Int.reduceLT, Int.reduceNeg, @use_all (z42 n) 30 k30.ora rfl, e30, @use_all (z42 n) 81 k81.ora rfl, e81, @use_all (z42 n) 24 k24.ora rfl, e24, @use_all (z42 n) 42 (r42 n).ora rfl, er42, wa, wb, sb, g1, g2, nx, ny, kx, ky, m1, m2, m3, m4, c2, p1, p2, p3, du, eu, ec, encO, hz0]
    simp only [F1, bodyRes, one, ains, clsOf, abin, aint, aun, dnext, rowsOf, loadObj, cellsOf, ofCells, bnd, hmerge, Nat.reduceBEq, Nat.reduceAdd, reduceIte, Nat.reduceEqDiff, Nat.reduceLeDiff, Int.reduceEq, reduceCtorEq, Int.reduceBEq, Int.reduceBNe, Int.reduceLT, Int.reduceNeg, fn42_res, fn42_keep, fz, fzd, fzd.fzcells, hr, ec, Option.bind_none, encO]
  | some c =>
    have hc := ok_catO hx h1 ec
    have ev := catT_enc hc h2
    have hz0 : (((enc c).length : Int) == 0) = false := beq_no (by have := hc.ne; omega)
    have dv : ((SmS (enc c) ∧ SmS (enc v)) ∧ (enc c).length ≤ 1000000 ∧ (enc v).length ≤ 1000000) ∧ (enc v).length < n := ⟨⟨⟨hc.sm, h2.sm⟩, by have := hc.len; omega, by have := h2.len; omega⟩, by rw [enc_len]; omega⟩
    simp only [fn42_body, c42, D0, ains, clsOf, abin, aint, aun, dnext, rowsOf, loadObj, cellsOf, ofCells, bnd, hmerge, Nat.reduceBEq, Nat.reduceAdd, reduceIte, Nat.reduceEqDiff, Nat.reduceLeDiff, Int.reduceEq, reduceCtorEq, Int.reduceBEq, Int.reduceBNe, Int.reduceLT, Int.reduceNeg, @use_all (z42 n) 30 k30.ora rfl, e30, @use_all (z42 n) 81 k81.ora rfl, e81, @use_all (z42 n) 24 k24.ora rfl, e24, @use_all (z42 n) 42 (r42 n).ora rfl, er42, wa, wb, sb, g1, g2, nx, ny, kx, ky, m1, m2, m3, m4, c2, p1, p2, p3, du, dv, eu, ev, ec, encO, hz0]
    simp only [F1, bodyRes, one, ains, clsOf, abin, aint, aun, dnext, rowsOf, loadObj, cellsOf, ofCells, bnd, hmerge, Nat.reduceBEq, Nat.reduceAdd, reduceIte, Nat.reduceEqDiff, Nat.reduceLeDiff, Int.reduceEq, reduceCtorEq, Int.reduceBEq, Int.reduceBNe, Int.reduceLT, Int.reduceNeg, fn42_res, fn42_keep, fz, fzd, fzd.fzcells, hr, ec, Option.bind_some]
theorem ook42 : OraOK Try.prog (42 % 100000) k42.ora := ora_rec (fun x => x.2.length) (fun a b _ _ h => i42 a b h) fun n h => (r42 (n + 1)).ok (f := 200042) orders (updC_ok (upd_ok2 (f := 42) q1_ok h) ok42) (fun x hd => by simp [r42, k42, PU]) (fun x hd => by simp [r42, k42, PU]) (fun x hd => run42 n x.1 x.2 hd)

/-! 84: caesuraref12.Star1. -/
theorem run84 (x : Tr) (hx : OkS x) : cwp q1 84 [] [(AV.list 5 (List.map eNd (enc x)))] [] (fun r H => r = (AV.list 5 (List.map eNd (encO (star1O x)))) ∧ H = []) := by
  refine run_fn (fn := fn84) rfl rfl ?_
  have nx := hx.ne
  have kx := lastN_enc x
  by_cases n1 : rk x = 0
  case pos =>
    have hr : star1O x = some empty := by simp [star1O, n1]
    simp only [fn84_body, c84, D0, ains, clsOf, abin, aint, aun, dnext, rowsOf, loadObj, cellsOf, ofCells, bnd, hmerge, Nat.reduceBEq, Nat.reduceAdd, reduceIte, Nat.reduceEqDiff, Nat.reduceLeDiff, Int.reduceEq, reduceCtorEq, Int.reduceBEq, Int.reduceBNe, Int.reduceLT, Int.reduceNeg, @use_all q1 81 k81.ora rfl, e81, @use_all q1 35 k35.ora rfl, e35, nx, kx, n1, leafT1]
    simp only [F1, bodyRes, one, ains, clsOf, abin, aint, aun, dnext, rowsOf, loadObj, cellsOf, ofCells, bnd, hmerge, Nat.reduceBEq, Nat.reduceAdd, reduceIte, Nat.reduceEqDiff, Nat.reduceLeDiff, Int.reduceEq, reduceCtorEq, Int.reduceBEq, Int.reduceBNe, Int.reduceLT, Int.reduceNeg, fn84_res, fn84_keep, fz, fzd, fzd.fzcells, hr, encO]
  have m1 := beq_no n1
  by_cases n2 : rk x = 1
  case pos =>
    have hr : star1O x = some empty := by simp [star1O, n2]
    simp only [fn84_body, c84, D0, ains, clsOf, abin, aint, aun, dnext, rowsOf, loadObj, cellsOf, ofCells, bnd, hmerge, Nat.reduceBEq, Nat.reduceAdd, reduceIte, Nat.reduceEqDiff, Nat.reduceLeDiff, Int.reduceEq, reduceCtorEq, Int.reduceBEq, Int.reduceBNe, Int.reduceLT, Int.reduceNeg, @use_all q1 81 k81.ora rfl, e81, @use_all q1 35 k35.ora rfl, e35, nx, kx, m1, n2, leafT1]
    simp only [F1, bodyRes, one, ains, clsOf, abin, aint, aun, dnext, rowsOf, loadObj, cellsOf, ofCells, bnd, hmerge, Nat.reduceBEq, Nat.reduceAdd, reduceIte, Nat.reduceEqDiff, Nat.reduceLeDiff, Int.reduceEq, reduceCtorEq, Int.reduceBEq, Int.reduceBNe, Int.reduceLT, Int.reduceNeg, fn84_res, fn84_keep, fz, fzd, fzd.fzcells, hr, encO]
  have m2 := beq_no n2
  by_cases n3 : rk x = 5
  case pos =>
    have hr : star1O x = some x := by simp [star1O, n3]
    simp only [fn84_body, c84, D0, ains, clsOf, abin, aint, aun, dnext, rowsOf, loadObj, cellsOf, ofCells, bnd, hmerge, Nat.reduceBEq, Nat.reduceAdd, reduceIte, Nat.reduceEqDiff, Nat.reduceLeDiff, Int.reduceEq, reduceCtorEq, Int.reduceBEq, Int.reduceBNe, Int.reduceLT, Int.reduceNeg, @use_all q1 81 k81.ora rfl, e81, nx, kx, m1, m2, n3]
    simp only [F1, bodyRes, one, ains, clsOf, abin, aint, aun, dnext, rowsOf, loadObj, cellsOf, ofCells, bnd, hmerge, Nat.reduceBEq, Nat.reduceAdd, reduceIte, Nat.reduceEqDiff, Nat.reduceLeDiff, Int.reduceEq, reduceCtorEq, Int.reduceBEq, Int.reduceBNe, Int.reduceLT, Int.reduceNeg, fn84_res, fn84_keep, fz, fzd, fzd.fzcells, hr, encO]
  have m3 := beq_no n3
  have hr : star1O x = starJ x := by simp [star1O, n1, n2, n3]
  have hd : SmS (enc x) ∧ (enc x).length ≤ 1000000 := ⟨hx.sm, by have := hx.len; omega⟩
  obtain ⟨j1, j2⟩ := encO_star hx
  simp only [fn84_body, c84, D0, ains, clsOf, abin, aint, aun, dnext, rowsOf, loadObj, cellsOf, ofCells, bnd, hmerge, Nat.reduceBEq, Nat.reduceAdd, reduceIte, Nat.reduceEqDiff, Nat.reduceLeDiff, Int.reduceEq, reduceCtorEq, Int.reduceBEq, Int.reduceBNe, Int.reduceLT, Int.reduceNeg, @use_all q1 81 k81.ora rfl, e81, @use_all q1 26 k26.ora rfl, e26, nx, kx, m1, m2, m3, hd, j1]
  simp only [F1, bodyRes, one, ains, clsOf, abin, aint, aun, dnext, rowsOf, loadObj, cellsOf, ofCells, bnd, hmerge, Nat.reduceBEq, Nat.reduceAdd, reduceIte, Nat.reduceEqDiff, Nat.reduceLeDiff, Int.reduceEq, reduceCtorEq, Int.reduceBEq, Int.reduceBNe, Int.reduceLT, Int.reduceNeg, fn84_res, fn84_keep, fz, fzd, fzd.fzcells, hr]
theorem trInj : ∀ x y : Tr, OkS x → OkS y → [(AV.list 5 (List.map eNd (enc x)))] = [(AV.list 5 (List.map eNd (enc y)))] → x = y := by
  intro x y hx hy h
  simp only [List.cons.injEq, and_true] at h
  exact enc_injS hx hy (eTree_inj h)
noncomputable def k84 : Kon (Tr) := ⟨fun x => OkS x, fun x => [(AV.list 5 (List.map eNd (enc x)))], fun x => (AV.list 5 (List.map eNd (encO (star1O x))))⟩
theorem e84 (t : Tr) (hd : OkS t) (q0 : Id) (H0 : Heap) : k84.ora q0 ([(AV.list 5 (List.map eNd (enc t)))]) H0 = some ((AV.list 5 (List.map eNd (encO (star1O t)))), H0) := k84.eqD (trInj) (t) hd q0 H0
theorem ook84 : OraOK Try.prog (84 % 100000) k84.ora := k84.ok orders q1_ok (fun x hd => by simp [k84, PU]) (fun x hd => by simp [k84, PU]) (fun x hd => run84 x hd)

noncomputable def q2 : FT := upd (upd (q1) 42 k42.ora) 84 k84.ora
theorem q2_ok : FTOK Try.prog q2 := upd_ok2 (f := 84) (upd_ok2 (f := 42) (q1_ok) ook42) ook84

end Go.Proofs.Abs
