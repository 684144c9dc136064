/- A part of a proof: the text that states the row tells what is proved. No condition is laid on anything. -/
import Derived.Test.YtgcncpedpjjjeaaAbsM2
set_option linter.all false
set_option linter.constructorNameAsVariable false
set_option linter.defProp false
set_option linter.unusedVariables false
set_option linter.unusedSimpArgs false
set_option maxRecDepth 100000
set_option maxHeartbeats 4000000
namespace Go.Proofs.Abs
open Go
/-! 79: smart.members. -/
theorem OkS.l {a b : Tr} (h : OkS (.alt a b)) : OkS a ∧ OkS b := by
  obtain ⟨⟨h1, h2⟩, h3⟩ := h
  simp only [sz] at h3
  exact ⟨⟨h1, by omega⟩, h2, by omega⟩
theorem OkS.dec {x : Tr} (h : OkS x) : dec (enc x) = x := dec_enc h.1 h.2
theorem OkS.len {x : Tr} (h : OkS x) : (enc x).length ≤ 40000 := by rw [enc_len]; exact h.2
theorem OkS.parts {a b : Tr} (h : OkS (.alt a b)) : partOK (enc (.alt a b)) = true ∧ partA (enc (.alt a b)) = enc a ∧ partB (enc (.alt a b)) = enc b :=
  parts_join (.inr rfl) h.l.1.good h.l.2.good (by rw [enc_len, enc_len]; exact h.2)
theorem okS_of {t : List Nd} (h : SmS t ∧ goodT t = true) : ∃ x, OkS x ∧ enc x = t := by
  obtain ⟨h1, h2, h3, h4⟩ := dec_spec h.1 h.2
  exact ⟨_, ⟨h1, h4⟩, h2⟩
theorem pureL_eTr1 (l : List Tr) : (∀ r ∈ List.map eTr1 l, ∀ a ∈ r, Pure a) = True := by
  have := pure_eTr1 l
  rw [pure_list] at this
  exact this
theorem eTr1_app (l m : List Tr) : List.map eTr1 l ++ List.map eTr1 m = List.map eTr1 (l ++ m) := by simp
theorem mems_len (x : Tr) : (mems x).length ≤ sz x := by
  induction x with
  | alt a b iha ihb => simp only [mems, List.length_append, sz]; omega
  | _ => simp [mems, sz]
noncomputable def k79 : KonO (List Nd) := ⟨fun x => SmS x ∧ goodT x = true, fun x => [(AV.list 5 (List.map eNd x))], 23, 1, fun x => List.map eTr1 (mems (dec x))⟩
theorem i79 : ∀ a b, k79.enc a = k79.enc b → a = b := treeInj2
theorem e79 (t : List Nd) (hd : SmS t ∧ goodT t = true) (q0 : Id) (H0 : Heap) : k79.ora q0 ([(AV.list 5 (List.map eNd t))]) H0 = some (.own (q0 ++ [0]) (List.map eTr1 (mems (dec t))).length, hadd H0 (q0 ++ [0]) (.row true true 23 1 (List.map eTr1 (mems (dec t))))) := k79.eq i79 (t) hd q0 H0
noncomputable def r79 (n : Nat) : KonO (List Nd) := ⟨fun x => k79.dom x ∧ (fun x => x.length) x < n, k79.enc, 23, 1, k79.out⟩
theorem er79 {n : Nat} (t : List Nd) (hd : (SmS t ∧ goodT t = true) ∧ t.length < n) (q0 : Id) (H0 : Heap) : (r79 n).ora q0 ([(AV.list 5 (List.map eNd t))]) H0 = some (.own (q0 ++ [0]) (List.map eTr1 (mems (dec t))).length, hadd H0 (q0 ++ [0]) (.row true true 23 1 (List.map eTr1 (mems (dec t))))) := (r79 n).eq i79 (t) hd q0 H0
noncomputable def z79 (n : Nat) : FT := updC (upd s2 79 (r79 n).ora) 200079 fn79

theorem run79 (n : Nat) (t : List Nd) (hd : (SmS t ∧ goodT t = true) ∧ t.length < n + 1) : cwp (z79 n) 200079 [] [(AV.list 5 (List.map eNd t))] [] (fun v H => ∃ id, v = .own id (List.map eTr1 (mems (dec t))).length ∧ H = [[(id, .row true true 23 1 (List.map eTr1 (mems (dec t))))]]) := by
  refine run_fn (fn := fn79) rfl rfl ?_
  obtain ⟨hd, hn⟩ := hd
  obtain ⟨x, hx, rfl⟩ := okS_of hd
  rw [hx.dec]
  have hne := hx.ne
  have hk := lastN_enc x
  by_cases h4 : rk x = 4
  · obtain ⟨a, b, rfl⟩ := rk_alt hx.1 h4
    obtain ⟨h1, h2⟩ := hx.l
    obtain ⟨p1, p2, p3⟩ := hx.parts
    have hl := hx.2
    rw [enc_len] at hn
    simp only [sz] at hn hl
    have da : (SmS (enc a) ∧ goodT (enc a) = true) ∧ (enc a).length < n := ⟨⟨h1.sm, h1.good⟩, by rw [enc_len]; omega⟩
    have db : (SmS (enc b) ∧ goodT (enc b) = true) ∧ (enc b).length < n := ⟨⟨h2.sm, h2.good⟩, by rw [enc_len]; omega⟩
    have dx := h1.dec
    have dy := h2.dec
    have c1 : ((mems a).length + (mems b).length) * 24 ≤ 140737488355328 := by
      have := mems_len a
      have := mems_len b
      omega
    have hs := hx.sm
    have hm : mems (.alt a b) = mems a ++ mems b := rfl
    simp only [fn79_body, c79, D0, ains, clsOf, abin, aint, aun, dnext, rowsOf, loadObj, cellsOf, ofCells, bnd, hmerge, Nat.reduceBEq, Nat.reduceAdd, reduceIte, Nat.reduceEqDiff, Nat.reduceLeDiff, Int.reduceEq, reduceCtorEq, Int.reduceBEq, Int.reduceBNe, Int.reduceLT, Int.reduceNeg, @use_all (z79 n) 76 k76.ora rfl, e76, @use_all (z79 n) 23 k23.ora rfl, e23, @use_all (z79 n) 79 (r79 n).ora rfl, er79, hne, hk, h4, hs, p1, p2, p3, da, db, dx, dy, c1]
    simp only [F1, bodyRes, one, ains, clsOf, abin, aint, aun, dnext, rowsOf, loadObj, cellsOf, ofCells, bnd, hmerge, Nat.reduceBEq, Nat.reduceAdd, reduceIte, Nat.reduceEqDiff, Nat.reduceLeDiff, Int.reduceEq, reduceCtorEq, Int.reduceBEq, Int.reduceBNe, Int.reduceLT, Int.reduceNeg, fn79_res, fn79_keep, eTr1_app, hm, List.length_append]
    exact ⟨_, rfl, rfl⟩
  · have hm : mems x = [x] := by cases x <;> first | rfl | exact absurd rfl h4
    simp only [fn79_body, c79, D0, ains, clsOf, abin, aint, aun, dnext, rowsOf, loadObj, cellsOf, ofCells, bnd, hmerge, Nat.reduceBEq, Nat.reduceAdd, reduceIte, Nat.reduceEqDiff, Nat.reduceLeDiff, Int.reduceEq, reduceCtorEq, Int.reduceBEq, Int.reduceBNe, Int.reduceLT, Int.reduceNeg, @use_all (z79 n) 76 k76.ora rfl, e76, @use_all (z79 n) 23 k23.ora rfl, e23, hne, hk, h4, fz, fzd, eTr1, hm]
    simp only [F1, bodyRes, one, ains, clsOf, abin, aint, aun, dnext, rowsOf, loadObj, cellsOf, ofCells, bnd, hmerge, Nat.reduceBEq, Nat.reduceAdd, reduceIte, Nat.reduceEqDiff, Nat.reduceLeDiff, Int.reduceEq, reduceCtorEq, Int.reduceBEq, Int.reduceBNe, Int.reduceLT, Int.reduceNeg, fn79_res, fn79_keep, hm, eTr1]
    exact ⟨_, rfl, rfl⟩
theorem ook79 : OraOK Try.prog (79 % 100000) k79.ora := oraO_rec (fun x => x.length) (fun a b _ _ h => i79 a b h) fun n h => (r79 (n + 1)).ok (f := 200079) orders (updC_ok (upd_ok2 (f := 79) s2_ok h) ok79) (fun x hd => by simp [r79, k79, PU]) (fun x hd => by dsimp only [r79, k79]; simp only [PU, pureL_eTr1]) (fun x hd => run79 n x hd)

noncomputable def s3 : FT := upd (s2) 79 k79.ora
theorem s3_ok : FTOK Try.prog s3 := upd_ok2 (f := 79) (s2_ok) ook79

end Go.Proofs.Abs
